/- Forward runs of functions of the program, printed by a program of this session: each function on plain values and memory, and that the code comes to it. No condition. -/
import Derived.Test.YtfenkpghcbohdaaDenCmp
import Derived.KernelRfl
import Derived.Test.YtfenkpghcbohdaaPdFRoot
namespace Go.Proofs.Ytfenkpghcbohdaa.Fwd
open Go Den
set_option linter.unusedVariables false
/-! ### corbel/corbelhand.Name -/
noncomputable def corbelhand_Name.f (k : Nat) (a0 : Int) (h : H) : Option ((ByteArray) × H) :=
  (corbelhand_Pick.f k a0 (7 : Int) h).bind fun q1 =>
    (asT (ixv 7 1 #[(Value.string (⟨#[97]⟩ : ByteArray)), (Value.string (⟨#[98]⟩ : ByteArray)), (Value.string (⟨#[99]⟩ : ByteArray)), (Value.string (⟨#[118, 111, 108, 49]⟩ : ByteArray)), (Value.string (⟨#[115, 110, 97, 112]⟩ : ByteArray)), (Value.string (⟨#[122, 122, 57]⟩ : ByteArray)), (Value.string (⟨#[120]⟩ : ByteArray))] q1.1)).bind fun s2 =>
    some (s2, q1.2)
noncomputable def corbelhand_Name.T (k : Nat) : Tbl := tblOf [⟨19, anyArgs, wr [(.int .i64), (.int .i64)] [(.int .i64)] (fun a h => corbelhand_Pick.f k (a.1) (a.2) h)⟩]
noncomputable def corbelhand_Name.an (k : Nat) (p : Nat) : Option Ann := none
noncomputable def corbelhand_Name.body : Code := (Try.f59.body).getD .skip
set_option maxRecDepth 100000 in
theorem corbelhand_Name.TS {C : FuncId → Bool} {X : CallF} (hX : XOk C X) (k : Nat) : TblS Try.prog C X (corbelhand_Name.T k) := by
  refine tblOf_sound ?_
  intro e he
  rcases List.mem_cons.1 he with rfl | he
  · exact wr_told (corbelhand_Pick.told hX k)
  exact absurd he List.not_mem_nil
set_option maxRecDepth 100000 in
theorem corbelhand_Name.eq (k : Nat) (a : RT [(.int .i64)]) (h : H) : (fun a h => corbelhand_Name.f k a h) a h = kfun Try.prog (corbelhand_Name.T k) (corbelhand_Name.an k) (RT [.str] × H) Try.f59 (encL [(.int .i64)] a) h (fun vs h' => (decL [.str] vs).bind fun x => some (x, h')) := by kernel_rfl
set_option maxRecDepth 100000 in
theorem corbelhand_Name.told {C : FuncId → Bool} {X : CallF} (hX : XOk C X) (k : Nat) : Den.Told Try.prog C X 59 [(.int .i64)] [.str] (fun a h => corbelhand_Name.f k a h) :=
  told_of fun a h q e => fn_of (c := corbelhand_Name.body) (corbelhand_Name.TS hX k) Try.func59 (by kernel_rfl) (hX.no 59 _ h (by decide))
    (by
      have e : need (corbelhand_Name.an k) corbelhand_Name.body 1 = [] := by kernel_rfl
      rw [e]; intro q hq; cases hq)
    ((corbelhand_Name.eq k a h).symm.trans e)
/-! ### corbel/corbelref16.IsName -/
noncomputable def corbelref16_IsName.l0 (k : Nat) (n : Nat) : ByteArray → Int → H → Option (((Bool) ⊕ (Unit)) × H) :=
  Nat.rec (motive := fun _ => ByteArray → Int → H → Option (((Bool) ⊕ (Unit)) × H)) (fun _ _ _ => none) (fun _ ih x1 x2 h3 => cond (decide (x2 < (Int.ofNat x1.data.toList.length)))
      ((asI .u8 (ixt x1 x2)).bind fun n4 =>
    (cond (decide (n4 ≥ (97 : Int))) ((asI .u8 (ixt x1 x2)).bind fun n5 =>
    some (decide (n5 ≤ (122 : Int)), h3))
      (some (false, h3))).bind fun g6 =>
    (cond g6.1 (some (true, g6.2))
      ((asI .u8 (ixt x1 x2)).bind fun n7 =>
    (cond (decide (n7 ≥ (48 : Int))) ((asI .u8 (ixt x1 x2)).bind fun n8 =>
    some (decide (n8 ≤ (57 : Int)), g6.2))
      (some (false, g6.2))).bind fun g9 =>
    some (g9.1, g9.2))).bind fun g10 =>
    cond (!g10.1)
      (some (Sum.inl false, g10.2))
      (ih x1 (wrapA .i64 (x2 + (1 : Int))) g10.2))
      (some (Sum.inr (), h3))) n
theorem corbelref16_IsName.l0_zero (k : Nat) (x1 : ByteArray) (x2 : Int) (h3 : H) : corbelref16_IsName.l0 k 0 x1 x2 h3 = none := rfl
theorem corbelref16_IsName.l0_succ (k n : Nat) (x1 : ByteArray) (x2 : Int) (h3 : H) : corbelref16_IsName.l0 k (n + 1) x1 x2 h3 = (cond (decide (x2 < (Int.ofNat x1.data.toList.length)))
      ((asI .u8 (ixt x1 x2)).bind fun n4 =>
    (cond (decide (n4 ≥ (97 : Int))) ((asI .u8 (ixt x1 x2)).bind fun n5 =>
    some (decide (n5 ≤ (122 : Int)), h3))
      (some (false, h3))).bind fun g6 =>
    (cond g6.1 (some (true, g6.2))
      ((asI .u8 (ixt x1 x2)).bind fun n7 =>
    (cond (decide (n7 ≥ (48 : Int))) ((asI .u8 (ixt x1 x2)).bind fun n8 =>
    some (decide (n8 ≤ (57 : Int)), g6.2))
      (some (false, g6.2))).bind fun g9 =>
    some (g9.1, g9.2))).bind fun g10 =>
    cond (!g10.1)
      (some (Sum.inl false, g10.2))
      (corbelref16_IsName.l0 k n x1 (wrapA .i64 (x2 + (1 : Int))) g10.2))
      (some (Sum.inr (), h3))) := rfl
noncomputable def corbelref16_IsName.f (k : Nat) (a0 : ByteArray) (h : H) : Option ((Bool) × H) :=
  (corbelref16_IsName.l0 k k a0 (0 : Int) h).bind fun w11 =>
    match w11.1 with
    | .inl r12 => some (r12, w11.2)
    | .inr o13 => (cond (decide ((Int.ofNat a0.data.toList.length) ≥ (1 : Int))) (some (decide ((Int.ofNat a0.data.toList.length) ≤ (8 : Int)), w11.2))
      (some (false, w11.2))).bind fun g14 =>
    some (g14.1, g14.2)
noncomputable def corbelref16_IsName.T (k : Nat) : Tbl := tblOf []
noncomputable def corbelref16_IsName.an (k : Nat) (p : Nat) : Option Ann := cond (Nat.beq p 26) (some (.pass [0] (lrun [(0, .str), (3, (.int .i64))] (some [(2, .bool)]) [] 0 (fun a h => corbelref16_IsName.l0 k k (a.1) (a.2) h))))
  (none)
noncomputable def corbelref16_IsName.body : Code := (Try.f66.body).getD .skip
noncomputable def corbelref16_IsName.c26 : Code := cat corbelref16_IsName.body [1, 0, 1, 0, 0]
set_option maxRecDepth 100000 in
theorem corbelref16_IsName.TS {C : FuncId → Bool} {X : CallF} (hX : XOk C X) (k : Nat) : TblS Try.prog C X (corbelref16_IsName.T k) := by
  refine tblOf_sound ?_
  intro e he
  exact absurd he List.not_mem_nil
set_option maxRecDepth 100000 in
theorem corbelref16_IsName.l0_pass {C : FuncId → Bool} {X : CallF} (hX : XOk C X) (k n : Nat) : PassS Try.prog C X 41 (.loop corbelref16_IsName.c26) (lrun [(0, .str), (3, (.int .i64))] (some [(2, .bool)]) [] 0 (fun a h => corbelref16_IsName.l0 k n (a.1) (a.2) h)) :=
  loop_pass (ins := [(0, .str), (3, (.int .i64))]) (rets := (some [(2, .bool)])) (outs := []) (id := 0) (tbl := corbelref16_IsName.T k) (an := corbelref16_IsName.an k) (pb := 52) (corbelref16_IsName.TS hX k) (fun n => (fun a h => corbelref16_IsName.l0 k n (a.1) (a.2) h)) (fun a h => rfl) (fun n a h => by kernel_rfl)
    (by
      have e : need (corbelref16_IsName.an k) corbelref16_IsName.c26 52 = [] := by kernel_rfl
      rw [e]; intro q hq; cases hq) n
set_option maxRecDepth 100000 in
theorem corbelref16_IsName.eq (k : Nat) (a : RT [.str]) (h : H) : (fun a h => corbelref16_IsName.f k a h) a h = kfun Try.prog (corbelref16_IsName.T k) (corbelref16_IsName.an k) (RT [.bool] × H) Try.f66 (encL [.str] a) h (fun vs h' => (decL [.bool] vs).bind fun x => some (x, h')) := by kernel_rfl
set_option maxRecDepth 100000 in
theorem corbelref16_IsName.told {C : FuncId → Bool} {X : CallF} (hX : XOk C X) (k : Nat) : Den.Told Try.prog C X 66 [.str] [.bool] (fun a h => corbelref16_IsName.f k a h) :=
  told_of fun a h q e => fn_of (c := corbelref16_IsName.body) (corbelref16_IsName.TS hX k) Try.func66 (by kernel_rfl) (hX.no 66 _ h (by decide))
    (by
      have e : need (corbelref16_IsName.an k) corbelref16_IsName.body 1 = [(Code.loop corbelref16_IsName.c26, lrun [(0, .str), (3, (.int .i64))] (some [(2, .bool)]) [] 0 (fun a h => corbelref16_IsName.l0 k k (a.1) (a.2) h))] := by kernel_rfl
      rw [e]; intro q hq
      rcases List.mem_cons.1 hq with rfl | hq
      · exact corbelref16_IsName.l0_pass hX k k
      cases hq)
    ((corbelref16_IsName.eq k a h).symm.trans e)
/-! ### corbel/corbelref16.RightMap -/
noncomputable def corbelref16_RightMap.l0 (k : Nat) (n : Nat) : Sl → Int → H → Option (((Bool) ⊕ (Unit)) × H) :=
  Nat.rec (motive := fun _ => Sl → Int → H → Option (((Bool) ⊕ (Unit)) × H)) (fun _ _ _ => none) (fun _ ih x4 x5 h6 => cond (decide (x5 < (Int.ofNat x4.n)))
      ((asP (ixs 1 x4.a x4.n x5)).bind fun p7 =>
    (asI .i64 (ldc h6 p7)).bind fun n8 =>
    (cond (n8 != (0 : Int)) ((asP (ixs 1 x4.a x4.n x5)).bind fun p9 =>
    (asI .i64 (ldc h6 p9)).bind fun n10 =>
    (cond (decide (n10 < (17 : Int))) (some (true, h6))
      ((asP (ixs 1 x4.a x4.n x5)).bind fun p11 =>
    (asI .i64 (ldc h6 p11)).bind fun n12 =>
    some (decide (n12 ≥ (40 : Int)), h6))).bind fun g13 =>
    some (g13.1, g13.2))
      (some (false, h6))).bind fun g14 =>
    cond g14.1
      (some (Sum.inl false, g14.2))
      (ih x4 (wrapA .i64 (x5 + (1 : Int))) g14.2))
      (some (Sum.inr (), h6))) n
theorem corbelref16_RightMap.l0_zero (k : Nat) (x4 : Sl) (x5 : Int) (h6 : H) : corbelref16_RightMap.l0 k 0 x4 x5 h6 = none := rfl
theorem corbelref16_RightMap.l0_succ (k n : Nat) (x4 : Sl) (x5 : Int) (h6 : H) : corbelref16_RightMap.l0 k (n + 1) x4 x5 h6 = (cond (decide (x5 < (Int.ofNat x4.n)))
      ((asP (ixs 1 x4.a x4.n x5)).bind fun p7 =>
    (asI .i64 (ldc h6 p7)).bind fun n8 =>
    (cond (n8 != (0 : Int)) ((asP (ixs 1 x4.a x4.n x5)).bind fun p9 =>
    (asI .i64 (ldc h6 p9)).bind fun n10 =>
    (cond (decide (n10 < (17 : Int))) (some (true, h6))
      ((asP (ixs 1 x4.a x4.n x5)).bind fun p11 =>
    (asI .i64 (ldc h6 p11)).bind fun n12 =>
    some (decide (n12 ≥ (40 : Int)), h6))).bind fun g13 =>
    some (g13.1, g13.2))
      (some (false, h6))).bind fun g14 =>
    cond g14.1
      (some (Sum.inl false, g14.2))
      (corbelref16_RightMap.l0 k n x4 (wrapA .i64 (x5 + (1 : Int))) g14.2))
      (some (Sum.inr (), h6))) := rfl
noncomputable def corbelref16_RightMap.f (k : Nat) (a0 : Int) (a1 : Sl) (h : H) : Option ((Bool) × H) :=
  (cond (decide (a0 < (0 : Int))) (some (true, h))
      (some (decide (a0 > (256 : Int)), h))).bind fun g1 =>
    (cond g1.1 (some (true, g1.2))
      (some ((a0.tmod (8 : Int)) != (0 : Int), g1.2))).bind fun g2 =>
    (cond g2.1 (some (true, g2.2))
      (some ((Int.ofNat a1.n) != (wrapA .i64 (a0.tdiv (8 : Int))), g2.2))).bind fun g3 =>
    cond g3.1
      (some (false, g3.2))
      ((corbelref16_RightMap.l0 k k a1 (0 : Int) g3.2).bind fun w15 =>
    match w15.1 with
    | .inl r16 => some (r16, w15.2)
    | .inr o17 => some (true, w15.2))
noncomputable def corbelref16_RightMap.T (k : Nat) : Tbl := tblOf []
noncomputable def corbelref16_RightMap.an (k : Nat) (p : Nat) : Option Ann := cond (Nat.beq p 58) (some (.pass [] (lrun [(1, .sl), (5, (.int .i64))] (some [(4, .bool)]) [] 0 (fun a h => corbelref16_RightMap.l0 k k (a.1) (a.2) h))))
  (none)
noncomputable def corbelref16_RightMap.body : Code := (Try.f31.body).getD .skip
noncomputable def corbelref16_RightMap.c58 : Code := cat corbelref16_RightMap.body [1, 1, 0, 1, 0, 0]
set_option maxRecDepth 100000 in
theorem corbelref16_RightMap.TS {C : FuncId → Bool} {X : CallF} (hX : XOk C X) (k : Nat) : TblS Try.prog C X (corbelref16_RightMap.T k) := by
  refine tblOf_sound ?_
  intro e he
  exact absurd he List.not_mem_nil
set_option maxRecDepth 100000 in
theorem corbelref16_RightMap.l0_pass {C : FuncId → Bool} {X : CallF} (hX : XOk C X) (k n : Nat) : PassS Try.prog C X 49 (.loop corbelref16_RightMap.c58) (lrun [(1, .sl), (5, (.int .i64))] (some [(4, .bool)]) [] 0 (fun a h => corbelref16_RightMap.l0 k n (a.1) (a.2) h)) :=
  loop_pass (ins := [(1, .sl), (5, (.int .i64))]) (rets := (some [(4, .bool)])) (outs := []) (id := 0) (tbl := corbelref16_RightMap.T k) (an := corbelref16_RightMap.an k) (pb := 116) (corbelref16_RightMap.TS hX k) (fun n => (fun a h => corbelref16_RightMap.l0 k n (a.1) (a.2) h)) (fun a h => rfl) (fun n a h => by kernel_rfl)
    (by
      have e : need (corbelref16_RightMap.an k) corbelref16_RightMap.c58 116 = [] := by kernel_rfl
      rw [e]; intro q hq; cases hq) n
set_option maxRecDepth 100000 in
theorem corbelref16_RightMap.eq (k : Nat) (a : RT [(.int .i64), .sl]) (h : H) : (fun a h => corbelref16_RightMap.f k (a.1) (a.2) h) a h = kfun Try.prog (corbelref16_RightMap.T k) (corbelref16_RightMap.an k) (RT [.bool] × H) Try.f31 (encL [(.int .i64), .sl] a) h (fun vs h' => (decL [.bool] vs).bind fun x => some (x, h')) := by kernel_rfl
set_option maxRecDepth 100000 in
theorem corbelref16_RightMap.told {C : FuncId → Bool} {X : CallF} (hX : XOk C X) (k : Nat) : Den.Told Try.prog C X 31 [(.int .i64), .sl] [.bool] (fun a h => corbelref16_RightMap.f k (a.1) (a.2) h) :=
  told_of fun a h q e => fn_of (c := corbelref16_RightMap.body) (corbelref16_RightMap.TS hX k) Try.func31 (by kernel_rfl) (hX.no 31 _ h (by decide))
    (by
      have e : need (corbelref16_RightMap.an k) corbelref16_RightMap.body 1 = [(Code.loop corbelref16_RightMap.c58, lrun [(1, .sl), (5, (.int .i64))] (some [(4, .bool)]) [] 0 (fun a h => corbelref16_RightMap.l0 k k (a.1) (a.2) h))] := by kernel_rfl
      rw [e]; intro q hq
      rcases List.mem_cons.1 hq with rfl | hq
      · exact corbelref16_RightMap.l0_pass hX k k
      cases hq)
    ((corbelref16_RightMap.eq k a h).symm.trans e)
/-! ### corbel/corbelref16.At -/
noncomputable def corbelref16_At.l0 (k : Nat) (n : Nat) : Sl → ByteArray → Int → H → Option (((Int) ⊕ (Unit)) × H) :=
  Nat.rec (motive := fun _ => Sl → ByteArray → Int → H → Option (((Int) ⊕ (Unit)) × H)) (fun _ _ _ _ => none) (fun _ ih x1 x2 x3 h4 => cond (decide (x3 < (Int.ofNat x1.n)))
      ((asP (ixs 5 x1.a x1.n x3)).bind fun p5 =>
    (asP (fadd 0 p5)).bind fun p6 =>
    (asT (ldc h4 p6)).bind fun s7 =>
    cond (s7.toList == x2.toList)
      (some (Sum.inl x3, h4))
      (ih x1 x2 (wrapA .i64 (x3 + (1 : Int))) h4))
      (some (Sum.inr (), h4))) n
theorem corbelref16_At.l0_zero (k : Nat) (x1 : Sl) (x2 : ByteArray) (x3 : Int) (h4 : H) : corbelref16_At.l0 k 0 x1 x2 x3 h4 = none := rfl
theorem corbelref16_At.l0_succ (k n : Nat) (x1 : Sl) (x2 : ByteArray) (x3 : Int) (h4 : H) : corbelref16_At.l0 k (n + 1) x1 x2 x3 h4 = (cond (decide (x3 < (Int.ofNat x1.n)))
      ((asP (ixs 5 x1.a x1.n x3)).bind fun p5 =>
    (asP (fadd 0 p5)).bind fun p6 =>
    (asT (ldc h4 p6)).bind fun s7 =>
    cond (s7.toList == x2.toList)
      (some (Sum.inl x3, h4))
      (corbelref16_At.l0 k n x1 x2 (wrapA .i64 (x3 + (1 : Int))) h4))
      (some (Sum.inr (), h4))) := rfl
noncomputable def corbelref16_At.f (k : Nat) (a0 : Sl) (a1 : ByteArray) (h : H) : Option ((Int) × H) :=
  (corbelref16_At.l0 k k a0 a1 (0 : Int) h).bind fun w8 =>
    match w8.1 with
    | .inl r9 => some (r9, w8.2)
    | .inr o10 => some ((-1 : Int), w8.2)
noncomputable def corbelref16_At.T (k : Nat) : Tbl := tblOf []
noncomputable def corbelref16_At.an (k : Nat) (p : Nat) : Option Ann := cond (Nat.beq p 26) (some (.pass [] (lrun [(0, .sl), (1, .str), (5, (.int .i64))] (some [(4, (.int .i64))]) [] 0 (fun a h => corbelref16_At.l0 k k (a.1) (a.2.1) (a.2.2) h))))
  (none)
noncomputable def corbelref16_At.body : Code := (Try.f57.body).getD .skip
noncomputable def corbelref16_At.c26 : Code := cat corbelref16_At.body [1, 0, 1, 0, 0]
set_option maxRecDepth 100000 in
theorem corbelref16_At.TS {C : FuncId → Bool} {X : CallF} (hX : XOk C X) (k : Nat) : TblS Try.prog C X (corbelref16_At.T k) := by
  refine tblOf_sound ?_
  intro e he
  exact absurd he List.not_mem_nil
set_option maxRecDepth 100000 in
theorem corbelref16_At.l0_pass {C : FuncId → Bool} {X : CallF} (hX : XOk C X) (k n : Nat) : PassS Try.prog C X 20 (.loop corbelref16_At.c26) (lrun [(0, .sl), (1, .str), (5, (.int .i64))] (some [(4, (.int .i64))]) [] 0 (fun a h => corbelref16_At.l0 k n (a.1) (a.2.1) (a.2.2) h)) :=
  loop_pass (ins := [(0, .sl), (1, .str), (5, (.int .i64))]) (rets := (some [(4, (.int .i64))])) (outs := []) (id := 0) (tbl := corbelref16_At.T k) (an := corbelref16_At.an k) (pb := 52) (corbelref16_At.TS hX k) (fun n => (fun a h => corbelref16_At.l0 k n (a.1) (a.2.1) (a.2.2) h)) (fun a h => rfl) (fun n a h => by kernel_rfl)
    (by
      have e : need (corbelref16_At.an k) corbelref16_At.c26 52 = [] := by kernel_rfl
      rw [e]; intro q hq; cases hq) n
set_option maxRecDepth 100000 in
theorem corbelref16_At.eq (k : Nat) (a : RT [.sl, .str]) (h : H) : (fun a h => corbelref16_At.f k (a.1) (a.2) h) a h = kfun Try.prog (corbelref16_At.T k) (corbelref16_At.an k) (RT [(.int .i64)] × H) Try.f57 (encL [.sl, .str] a) h (fun vs h' => (decL [(.int .i64)] vs).bind fun x => some (x, h')) := by kernel_rfl
set_option maxRecDepth 100000 in
theorem corbelref16_At.told {C : FuncId → Bool} {X : CallF} (hX : XOk C X) (k : Nat) : Den.Told Try.prog C X 57 [.sl, .str] [(.int .i64)] (fun a h => corbelref16_At.f k (a.1) (a.2) h) :=
  told_of fun a h q e => fn_of (c := corbelref16_At.body) (corbelref16_At.TS hX k) Try.func57 (by kernel_rfl) (hX.no 57 _ h (by decide))
    (by
      have e : need (corbelref16_At.an k) corbelref16_At.body 1 = [(Code.loop corbelref16_At.c26, lrun [(0, .sl), (1, .str), (5, (.int .i64))] (some [(4, (.int .i64))]) [] 0 (fun a h => corbelref16_At.l0 k k (a.1) (a.2.1) (a.2.2) h))] := by kernel_rfl
      rw [e]; intro q hq
      rcases List.mem_cons.1 hq with rfl | hq
      · exact corbelref16_At.l0_pass hX k k
      cases hq)
    ((corbelref16_At.eq k a h).symm.trans e)
/-! ### corbel/corbelref16.RightTree -/
noncomputable def corbelref16_RightTree.l0 (k : Nat) (n : Nat) : Sl → Int → H → Option (((Bool) ⊕ (Unit)) × H) :=
  Nat.rec (motive := fun _ => Sl → Int → H → Option (((Bool) ⊕ (Unit)) × H)) (fun _ _ _ => none) (fun _ ih x1 x2 h3 => cond (decide (x2 < (Int.ofNat x1.n)))
      ((asP (ixs 5 x1.a x1.n x2)).bind fun p4 =>
    (asSt [.str, .str, .bool, (.int .i64), .sl] (lda 5 h3 p4)).bind fun s5 =>
    (stv 5 (newR h3 58 5 [(Value.string (⟨#[]⟩ : ByteArray)), (Value.string (⟨#[]⟩ : ByteArray)), (Value.bool false), (Value.int .i64 (0 : Int)), (Value.slice none 0 0)]) (some ⟨h3.next, 0, none⟩) [(Value.string s5.1), (Value.string s5.2.1), (Value.bool s5.2.2.1), (Value.int .i64 s5.2.2.2.1), (Value.slice s5.2.2.2.2.a s5.2.2.2.2.n s5.2.2.2.2.c)]).bind fun q6 =>
    (asT (ldc q6.2 (some ⟨h3.next, 0, none⟩))).bind fun s7 =>
    (corbelref16_IsName.f k s7 q6.2).bind fun q8 =>
    (cond (!q8.1) (some (true, q8.2, [], []))
      ((cond (decide (x2 > (0 : Int))) ((asT (ldc q8.2 (some ⟨h3.next, 0, none⟩))).bind fun s9 =>
    (asP (ixs 5 x1.a x1.n (wrapA .i64 (x2 - (1 : Int))))).bind fun p10 =>
    (asP (fadd 0 p10)).bind fun p11 =>
    (asT (ldc q8.2 p11)).bind fun s12 =>
    some (Op.bytesLess s9.toList s12.toList || s9.toList == s12.toList, q8.2, [], []))
      (some (false, q8.2, [], [])) : Option (Bool × H × LEs × EFs)).bind fun g13 =>
    some (g13.1, g13.2.1, g13.2.2.1, g13.2.2.2)) : Option (Bool × H × LEs × EFs)).bind fun g14 =>
    (cond g14.1 (some (true, g14.2.1, [], []))
      ((asI .i64 (ldc g14.2.1 (some ⟨h3.next, 3, none⟩))).bind fun n15 =>
    (asS (ldc g14.2.1 (some ⟨h3.next, 4, none⟩))).bind fun s16 =>
    (corbelref16_RightMap.f k n15 s16 g14.2.1).bind fun q17 =>
    some (!q17.1, q17.2, [], [])) : Option (Bool × H × LEs × EFs)).bind fun g18 =>
    cond g18.1
      (some (Sum.inl false, g18.2.1))
      ((asT (ldc g18.2.1 (some ⟨h3.next, 1, none⟩))).bind fun s19 =>
    cond (s19.toList == (⟨#[]⟩ : ByteArray).toList)
      (ih x1 (wrapA .i64 (x2 + (1 : Int))) g18.2.1)
      ((asT (ldc g18.2.1 (some ⟨h3.next, 1, none⟩))).bind fun s20 =>
    (corbelref16_At.f k x1 s20 g18.2.1).bind fun q21 =>
    (cond (decide (q21.1 < (0 : Int))) (some (true, q21.2, [], []))
      (some (q21.1 == x2, q21.2, [], [])) : Option (Bool × H × LEs × EFs)).bind fun g22 =>
    (cond g22.1 (some (true, g22.2.1, [], []))
      ((asP (ixs 5 x1.a x1.n q21.1)).bind fun p23 =>
    (asP (fadd 2 p23)).bind fun p24 =>
    (asB (ldc g22.2.1 p24)).bind fun b25 =>
    (asB (ldc g22.2.1 (some ⟨h3.next, 2, none⟩))).bind fun b26 =>
    some (b25 == b26, g22.2.1, [], [])) : Option (Bool × H × LEs × EFs)).bind fun g27 =>
    cond g27.1
      (some (Sum.inl false, g27.2.1))
      (ih x1 (wrapA .i64 (x2 + (1 : Int))) g27.2.1))))
      (some (Sum.inr (), h3))) n
theorem corbelref16_RightTree.l0_zero (k : Nat) (x1 : Sl) (x2 : Int) (h3 : H) : corbelref16_RightTree.l0 k 0 x1 x2 h3 = none := rfl
theorem corbelref16_RightTree.l0_succ (k n : Nat) (x1 : Sl) (x2 : Int) (h3 : H) : corbelref16_RightTree.l0 k (n + 1) x1 x2 h3 = (cond (decide (x2 < (Int.ofNat x1.n)))
      ((asP (ixs 5 x1.a x1.n x2)).bind fun p4 =>
    (asSt [.str, .str, .bool, (.int .i64), .sl] (lda 5 h3 p4)).bind fun s5 =>
    (stv 5 (newR h3 58 5 [(Value.string (⟨#[]⟩ : ByteArray)), (Value.string (⟨#[]⟩ : ByteArray)), (Value.bool false), (Value.int .i64 (0 : Int)), (Value.slice none 0 0)]) (some ⟨h3.next, 0, none⟩) [(Value.string s5.1), (Value.string s5.2.1), (Value.bool s5.2.2.1), (Value.int .i64 s5.2.2.2.1), (Value.slice s5.2.2.2.2.a s5.2.2.2.2.n s5.2.2.2.2.c)]).bind fun q6 =>
    (asT (ldc q6.2 (some ⟨h3.next, 0, none⟩))).bind fun s7 =>
    (corbelref16_IsName.f k s7 q6.2).bind fun q8 =>
    (cond (!q8.1) (some (true, q8.2, [], []))
      ((cond (decide (x2 > (0 : Int))) ((asT (ldc q8.2 (some ⟨h3.next, 0, none⟩))).bind fun s9 =>
    (asP (ixs 5 x1.a x1.n (wrapA .i64 (x2 - (1 : Int))))).bind fun p10 =>
    (asP (fadd 0 p10)).bind fun p11 =>
    (asT (ldc q8.2 p11)).bind fun s12 =>
    some (Op.bytesLess s9.toList s12.toList || s9.toList == s12.toList, q8.2, [], []))
      (some (false, q8.2, [], [])) : Option (Bool × H × LEs × EFs)).bind fun g13 =>
    some (g13.1, g13.2.1, g13.2.2.1, g13.2.2.2)) : Option (Bool × H × LEs × EFs)).bind fun g14 =>
    (cond g14.1 (some (true, g14.2.1, [], []))
      ((asI .i64 (ldc g14.2.1 (some ⟨h3.next, 3, none⟩))).bind fun n15 =>
    (asS (ldc g14.2.1 (some ⟨h3.next, 4, none⟩))).bind fun s16 =>
    (corbelref16_RightMap.f k n15 s16 g14.2.1).bind fun q17 =>
    some (!q17.1, q17.2, [], [])) : Option (Bool × H × LEs × EFs)).bind fun g18 =>
    cond g18.1
      (some (Sum.inl false, g18.2.1))
      ((asT (ldc g18.2.1 (some ⟨h3.next, 1, none⟩))).bind fun s19 =>
    cond (s19.toList == (⟨#[]⟩ : ByteArray).toList)
      (corbelref16_RightTree.l0 k n x1 (wrapA .i64 (x2 + (1 : Int))) g18.2.1)
      ((asT (ldc g18.2.1 (some ⟨h3.next, 1, none⟩))).bind fun s20 =>
    (corbelref16_At.f k x1 s20 g18.2.1).bind fun q21 =>
    (cond (decide (q21.1 < (0 : Int))) (some (true, q21.2, [], []))
      (some (q21.1 == x2, q21.2, [], [])) : Option (Bool × H × LEs × EFs)).bind fun g22 =>
    (cond g22.1 (some (true, g22.2.1, [], []))
      ((asP (ixs 5 x1.a x1.n q21.1)).bind fun p23 =>
    (asP (fadd 2 p23)).bind fun p24 =>
    (asB (ldc g22.2.1 p24)).bind fun b25 =>
    (asB (ldc g22.2.1 (some ⟨h3.next, 2, none⟩))).bind fun b26 =>
    some (b25 == b26, g22.2.1, [], [])) : Option (Bool × H × LEs × EFs)).bind fun g27 =>
    cond g27.1
      (some (Sum.inl false, g27.2.1))
      (corbelref16_RightTree.l0 k n x1 (wrapA .i64 (x2 + (1 : Int))) g27.2.1))))
      (some (Sum.inr (), h3))) := rfl
noncomputable def corbelref16_RightTree.f (k : Nat) (a0 : Sl) (h : H) : Option ((Bool) × H) :=
  (corbelref16_RightTree.l0 k k a0 (0 : Int) h).bind fun w28 =>
    match w28.1 with
    | .inl r29 => some (r29, w28.2)
    | .inr o30 => some (decide ((Int.ofNat a0.n) ≤ (12 : Int)), w28.2)
noncomputable def corbelref16_RightTree.T (k : Nat) : Tbl := tblOf [⟨66, anyArgs, wr [.str] [.bool] (fun a h => corbelref16_IsName.f k a h)⟩,
  ⟨31, anyArgs, wr [(.int .i64), .sl] [.bool] (fun a h => corbelref16_RightMap.f k (a.1) (a.2) h)⟩,
  ⟨57, anyArgs, wr [.sl, .str] [(.int .i64)] (fun a h => corbelref16_At.f k (a.1) (a.2) h)⟩]
noncomputable def corbelref16_RightTree.an (k : Nat) (p : Nat) : Option Ann := cond (Nat.beq p 26) (some (.pass [0] (lrun [(0, .sl), (3, (.int .i64))] (some [(2, .bool)]) [] 0 (fun a h => corbelref16_RightTree.l0 k k (a.1) (a.2) h))))
  (none)
noncomputable def corbelref16_RightTree.body : Code := (Try.f48.body).getD .skip
noncomputable def corbelref16_RightTree.c26 : Code := cat corbelref16_RightTree.body [1, 0, 1, 0, 0]
set_option maxRecDepth 100000 in
theorem corbelref16_RightTree.TS {C : FuncId → Bool} {X : CallF} (hX : XOk C X) (k : Nat) : TblS Try.prog C X (corbelref16_RightTree.T k) := by
  refine tblOf_sound ?_
  intro e he
  rcases List.mem_cons.1 he with rfl | he
  · exact wr_told (corbelref16_IsName.told hX k)
  rcases List.mem_cons.1 he with rfl | he
  · exact wr_told (corbelref16_RightMap.told hX k)
  rcases List.mem_cons.1 he with rfl | he
  · exact wr_told (corbelref16_At.told hX k)
  exact absurd he List.not_mem_nil
set_option maxRecDepth 100000 in
theorem corbelref16_RightTree.l0_pass {C : FuncId → Bool} {X : CallF} (hX : XOk C X) (k n : Nat) : PassS Try.prog C X 70 (.loop corbelref16_RightTree.c26) (lrun [(0, .sl), (3, (.int .i64))] (some [(2, .bool)]) [] 0 (fun a h => corbelref16_RightTree.l0 k n (a.1) (a.2) h)) :=
  loop_pass (ins := [(0, .sl), (3, (.int .i64))]) (rets := (some [(2, .bool)])) (outs := []) (id := 0) (tbl := corbelref16_RightTree.T k) (an := corbelref16_RightTree.an k) (pb := 52) (corbelref16_RightTree.TS hX k) (fun n => (fun a h => corbelref16_RightTree.l0 k n (a.1) (a.2) h)) (fun a h => rfl) (fun n a h => by kernel_rfl)
    (by
      have e : need (corbelref16_RightTree.an k) corbelref16_RightTree.c26 52 = [] := by kernel_rfl
      rw [e]; intro q hq; cases hq) n
set_option maxRecDepth 100000 in
theorem corbelref16_RightTree.eq (k : Nat) (a : RT [.sl]) (h : H) : (fun a h => corbelref16_RightTree.f k a h) a h = kfun Try.prog (corbelref16_RightTree.T k) (corbelref16_RightTree.an k) (RT [.bool] × H) Try.f48 (encL [.sl] a) h (fun vs h' => (decL [.bool] vs).bind fun x => some (x, h')) := by kernel_rfl
set_option maxRecDepth 100000 in
theorem corbelref16_RightTree.told {C : FuncId → Bool} {X : CallF} (hX : XOk C X) (k : Nat) : Den.Told Try.prog C X 48 [.sl] [.bool] (fun a h => corbelref16_RightTree.f k a h) :=
  told_of fun a h q e => fn_of (c := corbelref16_RightTree.body) (corbelref16_RightTree.TS hX k) Try.func48 (by kernel_rfl) (hX.no 48 _ h (by decide))
    (by
      have e : need (corbelref16_RightTree.an k) corbelref16_RightTree.body 1 = [(Code.loop corbelref16_RightTree.c26, lrun [(0, .sl), (3, (.int .i64))] (some [(2, .bool)]) [] 0 (fun a h => corbelref16_RightTree.l0 k k (a.1) (a.2) h))] := by kernel_rfl
      rw [e]; intro q hq
      rcases List.mem_cons.1 hq with rfl | hq
      · exact corbelref16_RightTree.l0_pass hX k k
      cases hq)
    ((corbelref16_RightTree.eq k a h).symm.trans e)
/-! ### corbel/corbelref16.RightSize -/
noncomputable def corbelref16_RightSize.f (k : Nat) (a0 : Int) (h : H) : Option ((Bool) × H) :=
  (cond (decide (a0 ≥ (0 : Int))) (some (decide (a0 ≤ (256 : Int)), h))
      (some (false, h))).bind fun g1 =>
    (cond g1.1 (some ((a0.tmod (8 : Int)) == (0 : Int), g1.2))
      (some (false, g1.2))).bind fun g2 =>
    some (g2.1, g2.2)
noncomputable def corbelref16_RightSize.T (k : Nat) : Tbl := tblOf []
noncomputable def corbelref16_RightSize.an (k : Nat) (p : Nat) : Option Ann := none
noncomputable def corbelref16_RightSize.body : Code := (Try.f70.body).getD .skip
set_option maxRecDepth 100000 in
theorem corbelref16_RightSize.TS {C : FuncId → Bool} {X : CallF} (hX : XOk C X) (k : Nat) : TblS Try.prog C X (corbelref16_RightSize.T k) := by
  refine tblOf_sound ?_
  intro e he
  exact absurd he List.not_mem_nil
set_option maxRecDepth 100000 in
theorem corbelref16_RightSize.eq (k : Nat) (a : RT [(.int .i64)]) (h : H) : (fun a h => corbelref16_RightSize.f k a h) a h = kfun Try.prog (corbelref16_RightSize.T k) (corbelref16_RightSize.an k) (RT [.bool] × H) Try.f70 (encL [(.int .i64)] a) h (fun vs h' => (decL [.bool] vs).bind fun x => some (x, h')) := by kernel_rfl
set_option maxRecDepth 100000 in
theorem corbelref16_RightSize.told {C : FuncId → Bool} {X : CallF} (hX : XOk C X) (k : Nat) : Den.Told Try.prog C X 70 [(.int .i64)] [.bool] (fun a h => corbelref16_RightSize.f k a h) :=
  told_of fun a h q e => fn_of (c := corbelref16_RightSize.body) (corbelref16_RightSize.TS hX k) Try.func70 (by kernel_rfl) (hX.no 70 _ h (by decide))
    (by
      have e : need (corbelref16_RightSize.an k) corbelref16_RightSize.body 1 = [] := by kernel_rfl
      rw [e]; intro q hq; cases hq)
    ((corbelref16_RightSize.eq k a h).symm.trans e)
/-! ### corbel/corbelref16.Sized -/
noncomputable def corbelref16_Sized.l1 (k : Nat) (n : Nat) : Sl → Sl → Sl → Int → H → Option ((Sl) × H) :=
  Nat.rec (motive := fun _ => Sl → Sl → Sl → Int → H → Option ((Sl) × H)) (fun _ _ _ _ _ => none) (fun _ ih x14 x15 x16 x17 h18 => cond (decide (x17 < (Int.ofNat x14.n)))
      ((asP (ixs 1 x14.a x14.n x17)).bind fun p19 =>
    (asI .i64 (ldc h18 p19)).bind fun n20 =>
    (cond (n20 != (0 : Int))
      ((asP (ixs 1 x14.a x14.n x17)).bind fun p21 =>
    (asI .i64 (ldc h18 p21)).bind fun n22 =>
    (asS2 (apv 3 1 8 (Value.slice x16.a x16.n x16.c) (Value.slice (some ⟨h18.next, 0, none⟩) 1 1) (newR h18 3 1 [(Value.int .i64 n22)]))).bind fun q23 =>
    some (q23.1, q23.2))
      (some (x16, h18)) : Option ((Sl) × H)).bind fun j24 =>
    ih x14 x15 j24.1 (wrapA .i64 (x17 + (1 : Int))) j24.2)
      (some (x16, h18))) n
theorem corbelref16_Sized.l1_zero (k : Nat) (x14 : Sl) (x15 : Sl) (x16 : Sl) (x17 : Int) (h18 : H) : corbelref16_Sized.l1 k 0 x14 x15 x16 x17 h18 = none := rfl
theorem corbelref16_Sized.l1_succ (k n : Nat) (x14 : Sl) (x15 : Sl) (x16 : Sl) (x17 : Int) (h18 : H) : corbelref16_Sized.l1 k (n + 1) x14 x15 x16 x17 h18 = (cond (decide (x17 < (Int.ofNat x14.n)))
      ((asP (ixs 1 x14.a x14.n x17)).bind fun p19 =>
    (asI .i64 (ldc h18 p19)).bind fun n20 =>
    (cond (n20 != (0 : Int))
      ((asP (ixs 1 x14.a x14.n x17)).bind fun p21 =>
    (asI .i64 (ldc h18 p21)).bind fun n22 =>
    (asS2 (apv 3 1 8 (Value.slice x16.a x16.n x16.c) (Value.slice (some ⟨h18.next, 0, none⟩) 1 1) (newR h18 3 1 [(Value.int .i64 n22)]))).bind fun q23 =>
    some (q23.1, q23.2))
      (some (x16, h18)) : Option ((Sl) × H)).bind fun j24 =>
    corbelref16_Sized.l1 k n x14 x15 j24.1 (wrapA .i64 (x17 + (1 : Int))) j24.2)
      (some (x16, h18))) := rfl
noncomputable def corbelref16_Sized.l0 (k : Nat) (n : Nat) : Sl → Int → Sl → Sl → Int → H → Option ((Sl) × H) :=
  Nat.rec (motive := fun _ => Sl → Int → Sl → Sl → Int → H → Option ((Sl) × H)) (fun _ _ _ _ _ _ => none) (fun _ ih x2 x3 x4 x5 x6 h7 => cond (decide (x6 < x3))
      ((cond (decide (x6 < (Int.ofNat x2.n)))
      ((asP (ixs 1 x2.a x2.n x6)).bind fun p8 =>
    (asI .i64 (ldc h7 p8)).bind fun n9 =>
    (asS2 (apv 3 1 8 (Value.slice x5.a x5.n x5.c) (Value.slice (some ⟨h7.next, 0, none⟩) 1 1) (newR h7 3 1 [(Value.int .i64 n9)]))).bind fun q10 =>
    some (q10.1, q10.2))
      ((asS2 (apv 3 1 8 (Value.slice x5.a x5.n x5.c) (Value.slice (some ⟨h7.next, 0, none⟩) 1 1) (newR h7 3 1 [(Value.int .i64 (0 : Int))]))).bind fun q11 =>
    some (q11.1, q11.2)) : Option ((Sl) × H)).bind fun j12 =>
    ih x2 x3 x4 j12.1 (wrapA .i64 (x6 + (1 : Int))) j12.2)
      (some (x5, h7))) n
theorem corbelref16_Sized.l0_zero (k : Nat) (x2 : Sl) (x3 : Int) (x4 : Sl) (x5 : Sl) (x6 : Int) (h7 : H) : corbelref16_Sized.l0 k 0 x2 x3 x4 x5 x6 h7 = none := rfl
theorem corbelref16_Sized.l0_succ (k n : Nat) (x2 : Sl) (x3 : Int) (x4 : Sl) (x5 : Sl) (x6 : Int) (h7 : H) : corbelref16_Sized.l0 k (n + 1) x2 x3 x4 x5 x6 h7 = (cond (decide (x6 < x3))
      ((cond (decide (x6 < (Int.ofNat x2.n)))
      ((asP (ixs 1 x2.a x2.n x6)).bind fun p8 =>
    (asI .i64 (ldc h7 p8)).bind fun n9 =>
    (asS2 (apv 3 1 8 (Value.slice x5.a x5.n x5.c) (Value.slice (some ⟨h7.next, 0, none⟩) 1 1) (newR h7 3 1 [(Value.int .i64 n9)]))).bind fun q10 =>
    some (q10.1, q10.2))
      ((asS2 (apv 3 1 8 (Value.slice x5.a x5.n x5.c) (Value.slice (some ⟨h7.next, 0, none⟩) 1 1) (newR h7 3 1 [(Value.int .i64 (0 : Int))]))).bind fun q11 =>
    some (q11.1, q11.2)) : Option ((Sl) × H)).bind fun j12 =>
    corbelref16_Sized.l0 k n x2 x3 x4 j12.1 (wrapA .i64 (x6 + (1 : Int))) j12.2)
      (some (x5, h7))) := rfl
noncomputable def corbelref16_Sized.f (k : Nat) (a0 : Sl) (a1 : Int) (h : H) : Option ((Sl × Sl) × H) :=
  (corbelref16_RightSize.f k a1 h).bind fun q1 =>
    cond (!q1.1)
      (some (((⟨none, 0, 0⟩ : Sl), (⟨none, 0, 0⟩ : Sl)), q1.2))
      ((corbelref16_Sized.l0 k k a0 (wrapA .i64 (a1.tdiv (8 : Int))) (⟨none, 0, 0⟩ : Sl) (⟨none, 0, 0⟩ : Sl) (0 : Int) q1.2).bind fun w13 =>
    (corbelref16_Sized.l1 k k a0 w13.1 (⟨none, 0, 0⟩ : Sl) (wrapA .i64 (a1.tdiv (8 : Int))) w13.2).bind fun w25 =>
    some ((w13.1, w25.1), w25.2))
noncomputable def corbelref16_Sized.T (k : Nat) : Tbl := tblOf [⟨70, anyArgs, wr [(.int .i64)] [.bool] (fun a h => corbelref16_RightSize.f k a h)⟩]
noncomputable def corbelref16_Sized.an (k : Nat) (p : Nat) : Option Ann := cond (Nat.beq p 506) (some (.pass [7] (lrun [(0, .sl), (7, .sl), (8, .sl), (10, (.int .i64))] none [(8, .sl)] 2 (fun a h => corbelref16_Sized.l1 k k (a.1) (a.2.1) (a.2.2.1) (a.2.2.2) h))))
  (cond (Nat.beq p 16201) (some (.join [0, 7, 10] none [(8, .sl)]))
  (cond (Nat.beq p 250) (some (.pass [0, 6, 8] (lrun [(0, .sl), (6, (.int .i64)), (8, .sl), (7, .sl), (9, (.int .i64))] none [(7, .sl)] 0 (fun a h => corbelref16_Sized.l0 k k (a.1) (a.2.1) (a.2.2.1) (a.2.2.2.1) (a.2.2.2.2) h))))
  (cond (Nat.beq p 8009) (some (.join [0, 6, 8, 9] none [(7, .sl)]))
  (none))))
noncomputable def corbelref16_Sized.body : Code := (Try.f29.body).getD .skip
noncomputable def corbelref16_Sized.c250 : Code := cat corbelref16_Sized.body [1, 1, 1, 1, 0, 1, 0, 0]
noncomputable def corbelref16_Sized.c506 : Code := cat corbelref16_Sized.body [1, 1, 1, 1, 1, 0, 1, 0, 0]
set_option maxRecDepth 100000 in
theorem corbelref16_Sized.TS {C : FuncId → Bool} {X : CallF} (hX : XOk C X) (k : Nat) : TblS Try.prog C X (corbelref16_Sized.T k) := by
  refine tblOf_sound ?_
  intro e he
  rcases List.mem_cons.1 he with rfl | he
  · exact wr_told (corbelref16_RightSize.told hX k)
  exact absurd he List.not_mem_nil
set_option maxRecDepth 100000 in
theorem corbelref16_Sized.l1_pass {C : FuncId → Bool} {X : CallF} (hX : XOk C X) (k n : Nat) : PassS Try.prog C X 56 (.loop corbelref16_Sized.c506) (lrun [(0, .sl), (7, .sl), (8, .sl), (10, (.int .i64))] none [(8, .sl)] 2 (fun a h => corbelref16_Sized.l1 k n (a.1) (a.2.1) (a.2.2.1) (a.2.2.2) h)) :=
  loop_pass (ins := [(0, .sl), (7, .sl), (8, .sl), (10, (.int .i64))]) (rets := none) (outs := [(8, .sl)]) (id := 2) (tbl := corbelref16_Sized.T k) (an := corbelref16_Sized.an k) (pb := 1012) (corbelref16_Sized.TS hX k) (fun n => (fun a h => corbelref16_Sized.l1 k n (a.1) (a.2.1) (a.2.2.1) (a.2.2.2) h)) (fun a h => rfl) (fun n a h => by kernel_rfl)
    (by
      have e : need (corbelref16_Sized.an k) corbelref16_Sized.c506 1012 = [] := by kernel_rfl
      rw [e]; intro q hq; cases hq) n
set_option maxRecDepth 100000 in
theorem corbelref16_Sized.l0_pass {C : FuncId → Bool} {X : CallF} (hX : XOk C X) (k n : Nat) : PassS Try.prog C X 56 (.loop corbelref16_Sized.c250) (lrun [(0, .sl), (6, (.int .i64)), (8, .sl), (7, .sl), (9, (.int .i64))] none [(7, .sl)] 0 (fun a h => corbelref16_Sized.l0 k n (a.1) (a.2.1) (a.2.2.1) (a.2.2.2.1) (a.2.2.2.2) h)) :=
  loop_pass (ins := [(0, .sl), (6, (.int .i64)), (8, .sl), (7, .sl), (9, (.int .i64))]) (rets := none) (outs := [(7, .sl)]) (id := 0) (tbl := corbelref16_Sized.T k) (an := corbelref16_Sized.an k) (pb := 500) (corbelref16_Sized.TS hX k) (fun n => (fun a h => corbelref16_Sized.l0 k n (a.1) (a.2.1) (a.2.2.1) (a.2.2.2.1) (a.2.2.2.2) h)) (fun a h => rfl) (fun n a h => by kernel_rfl)
    (by
      have e : need (corbelref16_Sized.an k) corbelref16_Sized.c250 500 = [] := by kernel_rfl
      rw [e]; intro q hq; cases hq) n
set_option maxRecDepth 100000 in
theorem corbelref16_Sized.eq (k : Nat) (a : RT [.sl, (.int .i64)]) (h : H) : (fun a h => corbelref16_Sized.f k (a.1) (a.2) h) a h = kfun Try.prog (corbelref16_Sized.T k) (corbelref16_Sized.an k) (RT [.sl, .sl] × H) Try.f29 (encL [.sl, (.int .i64)] a) h (fun vs h' => (decL [.sl, .sl] vs).bind fun x => some (x, h')) := by kernel_rfl
set_option maxRecDepth 100000 in
theorem corbelref16_Sized.told {C : FuncId → Bool} {X : CallF} (hX : XOk C X) (k : Nat) : Den.Told Try.prog C X 29 [.sl, (.int .i64)] [.sl, .sl] (fun a h => corbelref16_Sized.f k (a.1) (a.2) h) :=
  told_of fun a h q e => fn_of (c := corbelref16_Sized.body) (corbelref16_Sized.TS hX k) Try.func29 (by kernel_rfl) (hX.no 29 _ h (by decide))
    (by
      have e : need (corbelref16_Sized.an k) corbelref16_Sized.body 1 = [(Code.loop corbelref16_Sized.c250, lrun [(0, .sl), (6, (.int .i64)), (8, .sl), (7, .sl), (9, (.int .i64))] none [(7, .sl)] 0 (fun a h => corbelref16_Sized.l0 k k (a.1) (a.2.1) (a.2.2.1) (a.2.2.2.1) (a.2.2.2.2) h)), (Code.loop corbelref16_Sized.c506, lrun [(0, .sl), (7, .sl), (8, .sl), (10, (.int .i64))] none [(8, .sl)] 2 (fun a h => corbelref16_Sized.l1 k k (a.1) (a.2.1) (a.2.2.1) (a.2.2.2) h))] := by kernel_rfl
      rw [e]; intro q hq
      rcases List.mem_cons.1 hq with rfl | hq
      · exact corbelref16_Sized.l0_pass hX k k
      rcases List.mem_cons.1 hq with rfl | hq
      · exact corbelref16_Sized.l1_pass hX k k
      cases hq)
    ((corbelref16_Sized.eq k a h).symm.trans e)
/-! ### corbel/corbelref16.copied -/
noncomputable def corbelref16_copied.l0 (k : Nat) (n : Nat) : Sl → Sl → Int → H → Option ((Sl) × H) :=
  Nat.rec (motive := fun _ => Sl → Sl → Int → H → Option ((Sl) × H)) (fun _ _ _ _ => none) (fun _ ih x1 x2 x3 h4 => cond (decide (x3 < (Int.ofNat x1.n)))
      ((asP (ixs 5 x1.a x1.n x3)).bind fun p5 =>
    (asSt [.str, .str, .bool, (.int .i64), .sl] (lda 5 h4 p5)).bind fun s6 =>
    (stv 5 (newR h4 58 5 [(Value.string (⟨#[]⟩ : ByteArray)), (Value.string (⟨#[]⟩ : ByteArray)), (Value.bool false), (Value.int .i64 (0 : Int)), (Value.slice none 0 0)]) (some ⟨h4.next, 0, none⟩) [(Value.string s6.1), (Value.string s6.2.1), (Value.bool s6.2.2.1), (Value.int .i64 s6.2.2.2.1), (Value.slice s6.2.2.2.2.a s6.2.2.2.2.n s6.2.2.2.2.c)]).bind fun q7 =>
    (asS (ldc (newR q7.2 3 1 []) (some ⟨h4.next, 4, none⟩))).bind fun s8 =>
    (asS2 (apv 3 1 8 (Value.slice (some ⟨q7.2.next, 0, none⟩) 0 0) (Value.slice s8.a s8.n s8.c) (newR q7.2 3 1 []))).bind fun q9 =>
    (stv 1 q9.2 (some ⟨h4.next, 4, none⟩) [(Value.slice q9.1.a q9.1.n q9.1.c)]).bind fun q10 =>
    (asSt [.str, .str, .bool, (.int .i64), .sl] (lda 5 q10.2 (some ⟨h4.next, 0, none⟩))).bind fun s11 =>
    (asS2 (apv 58 5 72 (Value.slice x2.a x2.n x2.c) (Value.slice (some ⟨q10.2.next, 0, none⟩) 1 1) (newR q10.2 58 5 [(Value.string s11.1), (Value.string s11.2.1), (Value.bool s11.2.2.1), (Value.int .i64 s11.2.2.2.1), (Value.slice s11.2.2.2.2.a s11.2.2.2.2.n s11.2.2.2.2.c)]))).bind fun q12 =>
    ih x1 q12.1 (wrapA .i64 (x3 + (1 : Int))) q12.2)
      (some (x2, h4))) n
theorem corbelref16_copied.l0_zero (k : Nat) (x1 : Sl) (x2 : Sl) (x3 : Int) (h4 : H) : corbelref16_copied.l0 k 0 x1 x2 x3 h4 = none := rfl
theorem corbelref16_copied.l0_succ (k n : Nat) (x1 : Sl) (x2 : Sl) (x3 : Int) (h4 : H) : corbelref16_copied.l0 k (n + 1) x1 x2 x3 h4 = (cond (decide (x3 < (Int.ofNat x1.n)))
      ((asP (ixs 5 x1.a x1.n x3)).bind fun p5 =>
    (asSt [.str, .str, .bool, (.int .i64), .sl] (lda 5 h4 p5)).bind fun s6 =>
    (stv 5 (newR h4 58 5 [(Value.string (⟨#[]⟩ : ByteArray)), (Value.string (⟨#[]⟩ : ByteArray)), (Value.bool false), (Value.int .i64 (0 : Int)), (Value.slice none 0 0)]) (some ⟨h4.next, 0, none⟩) [(Value.string s6.1), (Value.string s6.2.1), (Value.bool s6.2.2.1), (Value.int .i64 s6.2.2.2.1), (Value.slice s6.2.2.2.2.a s6.2.2.2.2.n s6.2.2.2.2.c)]).bind fun q7 =>
    (asS (ldc (newR q7.2 3 1 []) (some ⟨h4.next, 4, none⟩))).bind fun s8 =>
    (asS2 (apv 3 1 8 (Value.slice (some ⟨q7.2.next, 0, none⟩) 0 0) (Value.slice s8.a s8.n s8.c) (newR q7.2 3 1 []))).bind fun q9 =>
    (stv 1 q9.2 (some ⟨h4.next, 4, none⟩) [(Value.slice q9.1.a q9.1.n q9.1.c)]).bind fun q10 =>
    (asSt [.str, .str, .bool, (.int .i64), .sl] (lda 5 q10.2 (some ⟨h4.next, 0, none⟩))).bind fun s11 =>
    (asS2 (apv 58 5 72 (Value.slice x2.a x2.n x2.c) (Value.slice (some ⟨q10.2.next, 0, none⟩) 1 1) (newR q10.2 58 5 [(Value.string s11.1), (Value.string s11.2.1), (Value.bool s11.2.2.1), (Value.int .i64 s11.2.2.2.1), (Value.slice s11.2.2.2.2.a s11.2.2.2.2.n s11.2.2.2.2.c)]))).bind fun q12 =>
    corbelref16_copied.l0 k n x1 q12.1 (wrapA .i64 (x3 + (1 : Int))) q12.2)
      (some (x2, h4))) := rfl
noncomputable def corbelref16_copied.f (k : Nat) (a0 : Sl) (h : H) : Option ((Sl) × H) :=
  (corbelref16_copied.l0 k k a0 (⟨none, 0, 0⟩ : Sl) (0 : Int) h).bind fun w13 =>
    some (w13.1, w13.2)
noncomputable def corbelref16_copied.T (k : Nat) : Tbl := tblOf []
noncomputable def corbelref16_copied.an (k : Nat) (p : Nat) : Option Ann := cond (Nat.beq p 58) (some (.pass [] (lrun [(0, .sl), (3, .sl), (4, (.int .i64))] none [(3, .sl)] 0 (fun a h => corbelref16_copied.l0 k k (a.1) (a.2.1) (a.2.2) h))))
  (none)
noncomputable def corbelref16_copied.body : Code := (Try.f86.body).getD .skip
noncomputable def corbelref16_copied.c58 : Code := cat corbelref16_copied.body [1, 1, 0, 1, 0, 0]
set_option maxRecDepth 100000 in
theorem corbelref16_copied.TS {C : FuncId → Bool} {X : CallF} (hX : XOk C X) (k : Nat) : TblS Try.prog C X (corbelref16_copied.T k) := by
  refine tblOf_sound ?_
  intro e he
  exact absurd he List.not_mem_nil
set_option maxRecDepth 100000 in
theorem corbelref16_copied.l0_pass {C : FuncId → Bool} {X : CallF} (hX : XOk C X) (k n : Nat) : PassS Try.prog C X 26 (.loop corbelref16_copied.c58) (lrun [(0, .sl), (3, .sl), (4, (.int .i64))] none [(3, .sl)] 0 (fun a h => corbelref16_copied.l0 k n (a.1) (a.2.1) (a.2.2) h)) :=
  loop_pass (ins := [(0, .sl), (3, .sl), (4, (.int .i64))]) (rets := none) (outs := [(3, .sl)]) (id := 0) (tbl := corbelref16_copied.T k) (an := corbelref16_copied.an k) (pb := 116) (corbelref16_copied.TS hX k) (fun n => (fun a h => corbelref16_copied.l0 k n (a.1) (a.2.1) (a.2.2) h)) (fun a h => rfl) (fun n a h => by kernel_rfl)
    (by
      have e : need (corbelref16_copied.an k) corbelref16_copied.c58 116 = [] := by kernel_rfl
      rw [e]; intro q hq; cases hq) n
set_option maxRecDepth 100000 in
theorem corbelref16_copied.eq (k : Nat) (a : RT [.sl]) (h : H) : (fun a h => corbelref16_copied.f k a h) a h = kfun Try.prog (corbelref16_copied.T k) (corbelref16_copied.an k) (RT [.sl] × H) Try.f86 (encL [.sl] a) h (fun vs h' => (decL [.sl] vs).bind fun x => some (x, h')) := by kernel_rfl
set_option maxRecDepth 100000 in
theorem corbelref16_copied.told {C : FuncId → Bool} {X : CallF} (hX : XOk C X) (k : Nat) : Den.Told Try.prog C X 86 [.sl] [.sl] (fun a h => corbelref16_copied.f k a h) :=
  told_of fun a h q e => fn_of (c := corbelref16_copied.body) (corbelref16_copied.TS hX k) Try.func86 (by kernel_rfl) (hX.no 86 _ h (by decide))
    (by
      have e : need (corbelref16_copied.an k) corbelref16_copied.body 1 = [(Code.loop corbelref16_copied.c58, lrun [(0, .sl), (3, .sl), (4, (.int .i64))] none [(3, .sl)] 0 (fun a h => corbelref16_copied.l0 k k (a.1) (a.2.1) (a.2.2) h))] := by kernel_rfl
      rw [e]; intro q hq
      rcases List.mem_cons.1 hq with rfl | hq
      · exact corbelref16_copied.l0_pass hX k k
      cases hq)
    ((corbelref16_copied.eq k a h).symm.trans e)
/-! ### corbel/corbelref16.put -/
noncomputable def corbelref16_put.l0 (k : Nat) (n : Nat) : Sl → (Option Addr) → Int → H → Option ((Int) × H) :=
  Nat.rec (motive := fun _ => Sl → (Option Addr) → Int → H → Option ((Int) × H)) (fun _ _ _ _ => none) (fun _ ih x1 x2 x3 h4 => (cond (decide (x3 < (Int.ofNat x1.n))) ((asP (ixs 5 x1.a x1.n x3)).bind fun p5 =>
    (asP (fadd 0 p5)).bind fun p6 =>
    (asT (ldc h4 p6)).bind fun s7 =>
    (asP (fadd 0 x2)).bind fun p8 =>
    (asT (ldc h4 p8)).bind fun s9 =>
    some (Op.bytesLess s7.toList s9.toList, h4, [], []))
      (some (false, h4, [], [])) : Option (Bool × H × LEs × EFs)).bind fun g10 =>
    cond g10.1
      (ih x1 x2 (wrapA .i64 (x3 + (1 : Int))) g10.2.1)
      (some (x3, g10.2.1))) n
theorem corbelref16_put.l0_zero (k : Nat) (x1 : Sl) (x2 : Option Addr) (x3 : Int) (h4 : H) : corbelref16_put.l0 k 0 x1 x2 x3 h4 = none := rfl
theorem corbelref16_put.l0_succ (k n : Nat) (x1 : Sl) (x2 : Option Addr) (x3 : Int) (h4 : H) : corbelref16_put.l0 k (n + 1) x1 x2 x3 h4 = ((cond (decide (x3 < (Int.ofNat x1.n))) ((asP (ixs 5 x1.a x1.n x3)).bind fun p5 =>
    (asP (fadd 0 p5)).bind fun p6 =>
    (asT (ldc h4 p6)).bind fun s7 =>
    (asP (fadd 0 x2)).bind fun p8 =>
    (asT (ldc h4 p8)).bind fun s9 =>
    some (Op.bytesLess s7.toList s9.toList, h4, [], []))
      (some (false, h4, [], [])) : Option (Bool × H × LEs × EFs)).bind fun g10 =>
    cond g10.1
      (corbelref16_put.l0 k n x1 x2 (wrapA .i64 (x3 + (1 : Int))) g10.2.1)
      (some (x3, g10.2.1))) := rfl
noncomputable def corbelref16_put.f (k : Nat) (a0 : Sl) (a1 : (ByteArray × ByteArray × Bool × Int × Sl)) (h : H) : Option ((Sl) × H) :=
  (corbelref16_put.l0 k k a0 (some ⟨h.next, 0, none⟩) (0 : Int) (newR h 58 5 [(Value.string a1.1), (Value.string a1.2.1), (Value.bool a1.2.2.1), (Value.int .i64 a1.2.2.2.1), (Value.slice a1.2.2.2.2.a a1.2.2.2.2.n a1.2.2.2.2.c)])).bind fun w11 =>
    (asS (subs 5 (Value.slice a0.a a0.n a0.c) none (some w11.1))).bind fun s12 =>
    (asS2 (apv 58 5 72 (Value.slice (some ⟨w11.2.next, 0, none⟩) 0 0) (Value.slice s12.a s12.n s12.c) (newR w11.2 58 5 []))).bind fun q13 =>
    (asSt [.str, .str, .bool, (.int .i64), .sl] (lda 5 q13.2 (some ⟨h.next, 0, none⟩))).bind fun s14 =>
    (asS2 (apv 58 5 72 (Value.slice q13.1.a q13.1.n q13.1.c) (Value.slice (some ⟨q13.2.next, 0, none⟩) 1 1) (newR q13.2 58 5 [(Value.string s14.1), (Value.string s14.2.1), (Value.bool s14.2.2.1), (Value.int .i64 s14.2.2.2.1), (Value.slice s14.2.2.2.2.a s14.2.2.2.2.n s14.2.2.2.2.c)]))).bind fun q15 =>
    (asS (subs 5 (Value.slice a0.a a0.n a0.c) (some w11.1) none)).bind fun s16 =>
    (asS2 (apv 58 5 72 (Value.slice q15.1.a q15.1.n q15.1.c) (Value.slice s16.a s16.n s16.c) q15.2)).bind fun q17 =>
    cond (same1 (newR w11.2 58 5 []) q13.2 (some (Value.pointer (some ⟨h.next, 0, none⟩))) && (true)) (some (q17.1, q17.2)) none
noncomputable def corbelref16_put.T (k : Nat) : Tbl := tblOf []
noncomputable def corbelref16_put.an (k : Nat) (p : Nat) : Option Ann := cond (Nat.beq p 28) (some (.pass [0, 3] (lrun [(0, .sl), (3, .ptr), (5, (.int .i64))] none [(5, (.int .i64))] 0 (fun a h => corbelref16_put.l0 k k (a.1) (a.2.1) (a.2.2) h))))
  (none)
noncomputable def corbelref16_put.body : Code := (Try.f108.body).getD .skip
noncomputable def corbelref16_put.c28 : Code := cat corbelref16_put.body [1, 1, 0, 0, 0]
set_option maxRecDepth 100000 in
theorem corbelref16_put.TS {C : FuncId → Bool} {X : CallF} (hX : XOk C X) (k : Nat) : TblS Try.prog C X (corbelref16_put.T k) := by
  refine tblOf_sound ?_
  intro e he
  exact absurd he List.not_mem_nil
set_option maxRecDepth 100000 in
theorem corbelref16_put.l0_pass {C : FuncId → Bool} {X : CallF} (hX : XOk C X) (k n : Nat) : PassS Try.prog C X 34 (.loop corbelref16_put.c28) (lrun [(0, .sl), (3, .ptr), (5, (.int .i64))] none [(5, (.int .i64))] 0 (fun a h => corbelref16_put.l0 k n (a.1) (a.2.1) (a.2.2) h)) :=
  loop_pass (ins := [(0, .sl), (3, .ptr), (5, (.int .i64))]) (rets := none) (outs := [(5, (.int .i64))]) (id := 0) (tbl := corbelref16_put.T k) (an := corbelref16_put.an k) (pb := 56) (corbelref16_put.TS hX k) (fun n => (fun a h => corbelref16_put.l0 k n (a.1) (a.2.1) (a.2.2) h)) (fun a h => rfl) (fun n a h => by kernel_rfl)
    (by
      have e : need (corbelref16_put.an k) corbelref16_put.c28 56 = [] := by kernel_rfl
      rw [e]; intro q hq; cases hq) n
set_option maxRecDepth 100000 in
theorem corbelref16_put.eq (k : Nat) (a : RT [.sl, (.st [.str, .str, .bool, (.int .i64), .sl])]) (h : H) : (fun a h => corbelref16_put.f k (a.1) (a.2) h) a h = kfun Try.prog (corbelref16_put.T k) (corbelref16_put.an k) (RT [.sl] × H) Try.f108 (encL [.sl, (.st [.str, .str, .bool, (.int .i64), .sl])] a) h (fun vs h' => (decL [.sl] vs).bind fun x => some (x, h')) := by kernel_rfl
set_option maxRecDepth 100000 in
theorem corbelref16_put.told {C : FuncId → Bool} {X : CallF} (hX : XOk C X) (k : Nat) : Den.Told Try.prog C X 108 [.sl, (.st [.str, .str, .bool, (.int .i64), .sl])] [.sl] (fun a h => corbelref16_put.f k (a.1) (a.2) h) :=
  told_of fun a h q e => fn_of (c := corbelref16_put.body) (corbelref16_put.TS hX k) Try.func108 (by kernel_rfl) (hX.no 108 _ h (by decide))
    (by
      have e : need (corbelref16_put.an k) corbelref16_put.body 1 = [(Code.loop corbelref16_put.c28, lrun [(0, .sl), (3, .ptr), (5, (.int .i64))] none [(5, (.int .i64))] 0 (fun a h => corbelref16_put.l0 k k (a.1) (a.2.1) (a.2.2) h))] := by kernel_rfl
      rw [e]; intro q hq
      rcases List.mem_cons.1 hq with rfl | hq
      · exact corbelref16_put.l0_pass hX k k
      cases hq)
    ((corbelref16_put.eq k a h).symm.trans e)
/-! ### corbel/corbelref16.Create -/
noncomputable def corbelref16_Create.f (k : Nat) (a0 : Sl) (a1 : ByteArray) (a2 : Int) (h : H) : Option ((Sl × Int) × H) :=
  (corbelref16_RightTree.f k a0 h).bind fun q1 =>
    (cond (!q1.1) (some (true, q1.2))
      ((corbelref16_IsName.f k a1 q1.2).bind fun q2 =>
    some (!q2.1, q2.2))).bind fun g3 =>
    (cond g3.1 (some (true, g3.2))
      ((corbelref16_RightSize.f k a2 g3.2).bind fun q4 =>
    some (!q4.1, q4.2))).bind fun g5 =>
    cond g5.1
      (some (((⟨none, 0, 0⟩ : Sl), (1 : Int)), g5.2))
      ((corbelref16_At.f k a0 a1 g5.2).bind fun q6 =>
    cond (decide (q6.1 ≥ (0 : Int)))
      (some (((⟨none, 0, 0⟩ : Sl), (11 : Int)), q6.2))
      (cond (decide ((Int.ofNat a0.n) ≥ (12 : Int)))
      (some (((⟨none, 0, 0⟩ : Sl), (6 : Int)), q6.2))
      ((corbelref16_Sized.f k (⟨none, 0, 0⟩ : Sl) a2 q6.2).bind fun q7 =>
    (corbelref16_copied.f k a0 q7.2).bind fun q8 =>
    (corbelref16_put.f k q8.1 (a1, (⟨#[]⟩ : ByteArray), false, a2, q7.1.1) q8.2).bind fun q9 =>
    some ((q9.1, (0 : Int)), q9.2))))
noncomputable def corbelref16_Create.T (k : Nat) : Tbl := tblOf [⟨48, anyArgs, wr [.sl] [.bool] (fun a h => corbelref16_RightTree.f k a h)⟩,
  ⟨66, anyArgs, wr [.str] [.bool] (fun a h => corbelref16_IsName.f k a h)⟩,
  ⟨70, anyArgs, wr [(.int .i64)] [.bool] (fun a h => corbelref16_RightSize.f k a h)⟩,
  ⟨57, anyArgs, wr [.sl, .str] [(.int .i64)] (fun a h => corbelref16_At.f k (a.1) (a.2) h)⟩,
  ⟨29, anyArgs, wr [.sl, (.int .i64)] [.sl, .sl] (fun a h => corbelref16_Sized.f k (a.1) (a.2) h)⟩,
  ⟨86, anyArgs, wr [.sl] [.sl] (fun a h => corbelref16_copied.f k a h)⟩,
  ⟨108, anyArgs, wr [.sl, (.st [.str, .str, .bool, (.int .i64), .sl])] [.sl] (fun a h => corbelref16_put.f k (a.1) (a.2) h)⟩]
noncomputable def corbelref16_Create.an (k : Nat) (p : Nat) : Option Ann := none
noncomputable def corbelref16_Create.body : Code := (Try.f82.body).getD .skip
set_option maxRecDepth 100000 in
theorem corbelref16_Create.TS {C : FuncId → Bool} {X : CallF} (hX : XOk C X) (k : Nat) : TblS Try.prog C X (corbelref16_Create.T k) := by
  refine tblOf_sound ?_
  intro e he
  rcases List.mem_cons.1 he with rfl | he
  · exact wr_told (corbelref16_RightTree.told hX k)
  rcases List.mem_cons.1 he with rfl | he
  · exact wr_told (corbelref16_IsName.told hX k)
  rcases List.mem_cons.1 he with rfl | he
  · exact wr_told (corbelref16_RightSize.told hX k)
  rcases List.mem_cons.1 he with rfl | he
  · exact wr_told (corbelref16_At.told hX k)
  rcases List.mem_cons.1 he with rfl | he
  · exact wr_told (corbelref16_Sized.told hX k)
  rcases List.mem_cons.1 he with rfl | he
  · exact wr_told (corbelref16_copied.told hX k)
  rcases List.mem_cons.1 he with rfl | he
  · exact wr_told (corbelref16_put.told hX k)
  exact absurd he List.not_mem_nil
set_option maxRecDepth 100000 in
theorem corbelref16_Create.eq (k : Nat) (a : RT [.sl, .str, (.int .i64)]) (h : H) : (fun a h => corbelref16_Create.f k (a.1) (a.2.1) (a.2.2) h) a h = kfun Try.prog (corbelref16_Create.T k) (corbelref16_Create.an k) (RT [.sl, (.int .i64)] × H) Try.f82 (encL [.sl, .str, (.int .i64)] a) h (fun vs h' => (decL [.sl, (.int .i64)] vs).bind fun x => some (x, h')) := by kernel_rfl
set_option maxRecDepth 100000 in
theorem corbelref16_Create.told {C : FuncId → Bool} {X : CallF} (hX : XOk C X) (k : Nat) : Den.Told Try.prog C X 82 [.sl, .str, (.int .i64)] [.sl, (.int .i64)] (fun a h => corbelref16_Create.f k (a.1) (a.2.1) (a.2.2) h) :=
  told_of fun a h q e => fn_of (c := corbelref16_Create.body) (corbelref16_Create.TS hX k) Try.func82 (by kernel_rfl) (hX.no 82 _ h (by decide))
    (by
      have e : need (corbelref16_Create.an k) corbelref16_Create.body 1 = [] := by kernel_rfl
      rw [e]; intro q hq; cases hq)
    ((corbelref16_Create.eq k a h).symm.trans e)
/-! ### corbel/corbelref16.branch -/
noncomputable def corbelref16_branch.f (k : Nat) (a0 : Sl) (a1 : ByteArray) (a2 : ByteArray) (a3 : Bool) (h : H) : Option ((Sl × Int) × H) :=
  (corbelref16_At.f k a0 a1 h).bind fun q1 =>
    (corbelref16_RightTree.f k a0 q1.2).bind fun q2 =>
    (cond (!q2.1) (some (true, q2.2))
      ((corbelref16_IsName.f k a2 q2.2).bind fun q3 =>
    some (!q3.1, q3.2))).bind fun g4 =>
    cond g4.1
      (some (((⟨none, 0, 0⟩ : Sl), (1 : Int)), g4.2))
      (cond (decide (q1.1 < (0 : Int)))
      (some (((⟨none, 0, 0⟩ : Sl), (7 : Int)), g4.2))
      ((asP (ixs 5 a0.a a0.n q1.1)).bind fun p5 =>
    (asP (fadd 2 p5)).bind fun p6 =>
    (asB (ldc g4.2 p6)).bind fun b7 =>
    cond (b7 == a3)
      (some (((⟨none, 0, 0⟩ : Sl), (10 : Int)), g4.2))
      ((corbelref16_At.f k a0 a2 g4.2).bind fun q8 =>
    cond (decide (q8.1 ≥ (0 : Int)))
      (some (((⟨none, 0, 0⟩ : Sl), (11 : Int)), q8.2))
      (cond (decide ((Int.ofNat a0.n) ≥ (12 : Int)))
      (some (((⟨none, 0, 0⟩ : Sl), (6 : Int)), q8.2))
      ((corbelref16_copied.f k a0 q8.2).bind fun q9 =>
    (asP (ixs 5 a0.a a0.n q1.1)).bind fun p10 =>
    (asP (fadd 3 p10)).bind fun p11 =>
    (asI .i64 (ldc q9.2 p11)).bind fun n12 =>
    (asP (ixs 5 a0.a a0.n q1.1)).bind fun p13 =>
    (asP (fadd 4 p13)).bind fun p14 =>
    (asS (ldc (newR q9.2 3 1 []) p14)).bind fun s15 =>
    (asS2 (apv 3 1 8 (Value.slice (some ⟨q9.2.next, 0, none⟩) 0 0) (Value.slice s15.a s15.n s15.c) (newR q9.2 3 1 []))).bind fun q16 =>
    (corbelref16_put.f k q9.1 (a2, a1, a3, n12, q16.1) q16.2).bind fun q17 =>
    cond (same1 q8.2 q9.2 (some (Value.pointer p11)) && (same1 (newR q9.2 3 1 []) q16.2 (some (Value.pointer p11)) && (same1 q8.2 q9.2 (some (Value.pointer p14)) && (true)))) (some ((q17.1, (0 : Int)), q17.2)) none)))))
noncomputable def corbelref16_branch.T (k : Nat) : Tbl := tblOf [⟨57, anyArgs, wr [.sl, .str] [(.int .i64)] (fun a h => corbelref16_At.f k (a.1) (a.2) h)⟩,
  ⟨48, anyArgs, wr [.sl] [.bool] (fun a h => corbelref16_RightTree.f k a h)⟩,
  ⟨66, anyArgs, wr [.str] [.bool] (fun a h => corbelref16_IsName.f k a h)⟩,
  ⟨86, anyArgs, wr [.sl] [.sl] (fun a h => corbelref16_copied.f k a h)⟩,
  ⟨108, anyArgs, wr [.sl, (.st [.str, .str, .bool, (.int .i64), .sl])] [.sl] (fun a h => corbelref16_put.f k (a.1) (a.2) h)⟩]
noncomputable def corbelref16_branch.an (k : Nat) (p : Nat) : Option Ann := none
noncomputable def corbelref16_branch.body : Code := (Try.f109.body).getD .skip
set_option maxRecDepth 100000 in
theorem corbelref16_branch.TS {C : FuncId → Bool} {X : CallF} (hX : XOk C X) (k : Nat) : TblS Try.prog C X (corbelref16_branch.T k) := by
  refine tblOf_sound ?_
  intro e he
  rcases List.mem_cons.1 he with rfl | he
  · exact wr_told (corbelref16_At.told hX k)
  rcases List.mem_cons.1 he with rfl | he
  · exact wr_told (corbelref16_RightTree.told hX k)
  rcases List.mem_cons.1 he with rfl | he
  · exact wr_told (corbelref16_IsName.told hX k)
  rcases List.mem_cons.1 he with rfl | he
  · exact wr_told (corbelref16_copied.told hX k)
  rcases List.mem_cons.1 he with rfl | he
  · exact wr_told (corbelref16_put.told hX k)
  exact absurd he List.not_mem_nil
set_option maxRecDepth 100000 in
theorem corbelref16_branch.eq (k : Nat) (a : RT [.sl, .str, .str, .bool]) (h : H) : (fun a h => corbelref16_branch.f k (a.1) (a.2.1) (a.2.2.1) (a.2.2.2) h) a h = kfun Try.prog (corbelref16_branch.T k) (corbelref16_branch.an k) (RT [.sl, (.int .i64)] × H) Try.f109 (encL [.sl, .str, .str, .bool] a) h (fun vs h' => (decL [.sl, (.int .i64)] vs).bind fun x => some (x, h')) := by kernel_rfl
set_option maxRecDepth 100000 in
theorem corbelref16_branch.told {C : FuncId → Bool} {X : CallF} (hX : XOk C X) (k : Nat) : Den.Told Try.prog C X 109 [.sl, .str, .str, .bool] [.sl, (.int .i64)] (fun a h => corbelref16_branch.f k (a.1) (a.2.1) (a.2.2.1) (a.2.2.2) h) :=
  told_of fun a h q e => fn_of (c := corbelref16_branch.body) (corbelref16_branch.TS hX k) Try.func109 (by kernel_rfl) (hX.no 109 _ h (by decide))
    (by
      have e : need (corbelref16_branch.an k) corbelref16_branch.body 1 = [] := by kernel_rfl
      rw [e]; intro q hq; cases hq)
    ((corbelref16_branch.eq k a h).symm.trans e)
/-! ### corbel/corbelref16.Snapshot -/
noncomputable def corbelref16_Snapshot.f (k : Nat) (a0 : Sl) (a1 : ByteArray) (a2 : ByteArray) (h : H) : Option ((Sl × Int) × H) :=
  (corbelref16_branch.f k a0 a1 a2 true h).bind fun q1 =>
    some ((q1.1.1, q1.1.2), q1.2)
noncomputable def corbelref16_Snapshot.T (k : Nat) : Tbl := tblOf [⟨109, anyArgs, wr [.sl, .str, .str, .bool] [.sl, (.int .i64)] (fun a h => corbelref16_branch.f k (a.1) (a.2.1) (a.2.2.1) (a.2.2.2) h)⟩]
noncomputable def corbelref16_Snapshot.an (k : Nat) (p : Nat) : Option Ann := none
noncomputable def corbelref16_Snapshot.body : Code := (Try.f83.body).getD .skip
set_option maxRecDepth 100000 in
theorem corbelref16_Snapshot.TS {C : FuncId → Bool} {X : CallF} (hX : XOk C X) (k : Nat) : TblS Try.prog C X (corbelref16_Snapshot.T k) := by
  refine tblOf_sound ?_
  intro e he
  rcases List.mem_cons.1 he with rfl | he
  · exact wr_told (corbelref16_branch.told hX k)
  exact absurd he List.not_mem_nil
set_option maxRecDepth 100000 in
theorem corbelref16_Snapshot.eq (k : Nat) (a : RT [.sl, .str, .str]) (h : H) : (fun a h => corbelref16_Snapshot.f k (a.1) (a.2.1) (a.2.2) h) a h = kfun Try.prog (corbelref16_Snapshot.T k) (corbelref16_Snapshot.an k) (RT [.sl, (.int .i64)] × H) Try.f83 (encL [.sl, .str, .str] a) h (fun vs h' => (decL [.sl, (.int .i64)] vs).bind fun x => some (x, h')) := by kernel_rfl
set_option maxRecDepth 100000 in
theorem corbelref16_Snapshot.told {C : FuncId → Bool} {X : CallF} (hX : XOk C X) (k : Nat) : Den.Told Try.prog C X 83 [.sl, .str, .str] [.sl, (.int .i64)] (fun a h => corbelref16_Snapshot.f k (a.1) (a.2.1) (a.2.2) h) :=
  told_of fun a h q e => fn_of (c := corbelref16_Snapshot.body) (corbelref16_Snapshot.TS hX k) Try.func83 (by kernel_rfl) (hX.no 83 _ h (by decide))
    (by
      have e : need (corbelref16_Snapshot.an k) corbelref16_Snapshot.body 1 = [] := by kernel_rfl
      rw [e]; intro q hq; cases hq)
    ((corbelref16_Snapshot.eq k a h).symm.trans e)
/-! ### corbel/corbelref16.Clone -/
noncomputable def corbelref16_Clone.f (k : Nat) (a0 : Sl) (a1 : ByteArray) (a2 : ByteArray) (h : H) : Option ((Sl × Int) × H) :=
  (corbelref16_branch.f k a0 a1 a2 false h).bind fun q1 =>
    some ((q1.1.1, q1.1.2), q1.2)
noncomputable def corbelref16_Clone.T (k : Nat) : Tbl := tblOf [⟨109, anyArgs, wr [.sl, .str, .str, .bool] [.sl, (.int .i64)] (fun a h => corbelref16_branch.f k (a.1) (a.2.1) (a.2.2.1) (a.2.2.2) h)⟩]
noncomputable def corbelref16_Clone.an (k : Nat) (p : Nat) : Option Ann := none
noncomputable def corbelref16_Clone.body : Code := (Try.f84.body).getD .skip
set_option maxRecDepth 100000 in
theorem corbelref16_Clone.TS {C : FuncId → Bool} {X : CallF} (hX : XOk C X) (k : Nat) : TblS Try.prog C X (corbelref16_Clone.T k) := by
  refine tblOf_sound ?_
  intro e he
  rcases List.mem_cons.1 he with rfl | he
  · exact wr_told (corbelref16_branch.told hX k)
  exact absurd he List.not_mem_nil
set_option maxRecDepth 100000 in
theorem corbelref16_Clone.eq (k : Nat) (a : RT [.sl, .str, .str]) (h : H) : (fun a h => corbelref16_Clone.f k (a.1) (a.2.1) (a.2.2) h) a h = kfun Try.prog (corbelref16_Clone.T k) (corbelref16_Clone.an k) (RT [.sl, (.int .i64)] × H) Try.f84 (encL [.sl, .str, .str] a) h (fun vs h' => (decL [.sl, (.int .i64)] vs).bind fun x => some (x, h')) := by kernel_rfl
set_option maxRecDepth 100000 in
theorem corbelref16_Clone.told {C : FuncId → Bool} {X : CallF} (hX : XOk C X) (k : Nat) : Den.Told Try.prog C X 84 [.sl, .str, .str] [.sl, (.int .i64)] (fun a h => corbelref16_Clone.f k (a.1) (a.2.1) (a.2.2) h) :=
  told_of fun a h q e => fn_of (c := corbelref16_Clone.body) (corbelref16_Clone.TS hX k) Try.func84 (by kernel_rfl) (hX.no 84 _ h (by decide))
    (by
      have e : need (corbelref16_Clone.an k) corbelref16_Clone.body 1 = [] := by kernel_rfl
      rw [e]; intro q hq; cases hq)
    ((corbelref16_Clone.eq k a h).symm.trans e)
/-! ### corbel/corbellaw19.of -/
/-! ### corbel/tree.IsName$1 -/
noncomputable def tree_IsName_1.f (k : Nat) (a0 : Int) (h : H) : Option ((Bool) × H) :=
  (cond (decide (a0 < (97 : Int))) (some (true, h))
      (some (decide (a0 > (122 : Int)), h))).bind fun g1 =>
    (cond g1.1 ((cond (decide (a0 < (48 : Int))) (some (true, g1.2))
      (some (decide (a0 > (57 : Int)), g1.2))).bind fun g2 =>
    some (g2.1, g2.2))
      (some (false, g1.2))).bind fun g3 =>
    some (g3.1, g3.2)
noncomputable def tree_IsName_1.T (k : Nat) : Tbl := tblOf []
noncomputable def tree_IsName_1.an (k : Nat) (p : Nat) : Option Ann := none
noncomputable def tree_IsName_1.body : Code := (Try.f102.body).getD .skip
set_option maxRecDepth 100000 in
theorem tree_IsName_1.TS {C : FuncId → Bool} {X : CallF} (hX : XOk C X) (k : Nat) : TblS Try.prog C X (tree_IsName_1.T k) := by
  refine tblOf_sound ?_
  intro e he
  exact absurd he List.not_mem_nil
set_option maxRecDepth 100000 in
theorem tree_IsName_1.eq (k : Nat) (a : RT [(.int .i32)]) (h : H) : (fun a h => tree_IsName_1.f k a h) a h = kfun Try.prog (tree_IsName_1.T k) (tree_IsName_1.an k) (RT [.bool] × H) Try.f102 (encL [(.int .i32)] a) h (fun vs h' => (decL [.bool] vs).bind fun x => some (x, h')) := by kernel_rfl
set_option maxRecDepth 100000 in
theorem tree_IsName_1.told {C : FuncId → Bool} {X : CallF} (hX : XOk C X) (k : Nat) : Den.Told Try.prog C X 102 [(.int .i32)] [.bool] (fun a h => tree_IsName_1.f k a h) :=
  told_of fun a h q e => fn_of (c := tree_IsName_1.body) (tree_IsName_1.TS hX k) Try.func102 (by kernel_rfl) (hX.no 102 _ h (by decide))
    (by
      have e : need (tree_IsName_1.an k) tree_IsName_1.body 1 = [] := by kernel_rfl
      rw [e]; intro q hq; cases hq)
    ((tree_IsName_1.eq k a h).symm.trans e)
/-! ### strings.indexFunc -/
noncomputable def strings_indexFunc_tree_IsName_1.l0 (k : Nat) (n : Nat) : Unit → Bool → (Option Addr) → H → Option (((Int) ⊕ (Unit)) × H) :=
  Nat.rec (motive := fun _ => Unit → Bool → (Option Addr) → H → Option (((Int) ⊕ (Unit)) × H)) (fun _ _ _ _ => none) (fun _ ih x1 x2 x3 h4 => (nxt h4 (some (Value.pointer x3))).bind fun q5 =>
    match q5 with
    | none => some (Sum.inr (), h4)
    | some r6 => (tree_IsName_1.f k r6.2.1 r6.2.2).bind fun q7 =>
    cond (q7.1 == x2)
      (some (Sum.inl (Int.ofNat r6.1), q7.2))
      (ih () x2 x3 q7.2)) n
theorem strings_indexFunc_tree_IsName_1.l0_zero (k : Nat) (x1 : Unit) (x2 : Bool) (x3 : Option Addr) (h4 : H) : strings_indexFunc_tree_IsName_1.l0 k 0 x1 x2 x3 h4 = none := rfl
theorem strings_indexFunc_tree_IsName_1.l0_succ (k n : Nat) (x1 : Unit) (x2 : Bool) (x3 : Option Addr) (h4 : H) : strings_indexFunc_tree_IsName_1.l0 k (n + 1) x1 x2 x3 h4 = ((nxt h4 (some (Value.pointer x3))).bind fun q5 =>
    match q5 with
    | none => some (Sum.inr (), h4)
    | some r6 => (tree_IsName_1.f k r6.2.1 r6.2.2).bind fun q7 =>
    cond (q7.1 == x2)
      (some (Sum.inl (Int.ofNat r6.1), q7.2))
      (strings_indexFunc_tree_IsName_1.l0 k n () x2 x3 q7.2)) := rfl
noncomputable def strings_indexFunc_tree_IsName_1.f (k : Nat) (a0 : ByteArray) (a1 : Unit) (a2 : Bool) (h : H) : Option ((Int) × H) :=
  (strings_indexFunc_tree_IsName_1.l0 k k () a2 (some ⟨h.next, 0, none⟩) (h.new (.iter a0 0 h.clock))).bind fun w8 =>
    match w8.1 with
    | .inl r9 => some (r9, w8.2)
    | .inr o10 => some ((-1 : Int), w8.2)
noncomputable def strings_indexFunc_tree_IsName_1.T (k : Nat) : Tbl := tblOf [⟨102, anyArgs, wr [(.int .i32)] [.bool] (fun a h => tree_IsName_1.f k a h)⟩]
noncomputable def strings_indexFunc_tree_IsName_1.an (k : Nat) (p : Nat) : Option Ann := cond (Nat.beq p 26) (some (.pass [] (lrun [(1, (.fn 102 0)), (2, .bool), (10, .ptr)] (some [(6, (.int .i64))]) [] 0 (fun a h => strings_indexFunc_tree_IsName_1.l0 k k (a.1) (a.2.1) (a.2.2) h))))
  (none)
noncomputable def strings_indexFunc_tree_IsName_1.body : Code := (Try.f120.body).getD .skip
noncomputable def strings_indexFunc_tree_IsName_1.c26 : Code := cat strings_indexFunc_tree_IsName_1.body [1, 0, 1, 0, 0]
set_option maxRecDepth 100000 in
theorem strings_indexFunc_tree_IsName_1.TS {C : FuncId → Bool} {X : CallF} (hX : XOk C X) (k : Nat) : TblS Try.prog C X (strings_indexFunc_tree_IsName_1.T k) := by
  refine tblOf_sound ?_
  intro e he
  rcases List.mem_cons.1 he with rfl | he
  · exact wr_told (tree_IsName_1.told hX k)
  exact absurd he List.not_mem_nil
set_option maxRecDepth 100000 in
theorem strings_indexFunc_tree_IsName_1.l0_pass {C : FuncId → Bool} {X : CallF} (hX : XOk C X) (k n : Nat) : PassS Try.prog C X 21 (.loop strings_indexFunc_tree_IsName_1.c26) (lrun [(1, (.fn 102 0)), (2, .bool), (10, .ptr)] (some [(6, (.int .i64))]) [] 0 (fun a h => strings_indexFunc_tree_IsName_1.l0 k n (a.1) (a.2.1) (a.2.2) h)) :=
  loop_pass (ins := [(1, (.fn 102 0)), (2, .bool), (10, .ptr)]) (rets := (some [(6, (.int .i64))])) (outs := []) (id := 0) (tbl := strings_indexFunc_tree_IsName_1.T k) (an := strings_indexFunc_tree_IsName_1.an k) (pb := 52) (strings_indexFunc_tree_IsName_1.TS hX k) (fun n => (fun a h => strings_indexFunc_tree_IsName_1.l0 k n (a.1) (a.2.1) (a.2.2) h)) (fun a h => rfl) (fun n a h => by kernel_rfl)
    (by
      have e : need (strings_indexFunc_tree_IsName_1.an k) strings_indexFunc_tree_IsName_1.c26 52 = [] := by kernel_rfl
      rw [e]; intro q hq; cases hq) n
set_option maxRecDepth 100000 in
theorem strings_indexFunc_tree_IsName_1.eq (k : Nat) (a : RT [.str, (.fn 102 0), .bool]) (h : H) : (fun a h => strings_indexFunc_tree_IsName_1.f k (a.1) (a.2.1) (a.2.2) h) a h = kfun Try.prog (strings_indexFunc_tree_IsName_1.T k) (strings_indexFunc_tree_IsName_1.an k) (RT [(.int .i64)] × H) Try.f120 (encL [.str, (.fn 102 0), .bool] a) h (fun vs h' => (decL [(.int .i64)] vs).bind fun x => some (x, h')) := by kernel_rfl
set_option maxRecDepth 100000 in
theorem strings_indexFunc_tree_IsName_1.told {C : FuncId → Bool} {X : CallF} (hX : XOk C X) (k : Nat) : Den.Told Try.prog C X 120 [.str, (.fn 102 0), .bool] [(.int .i64)] (fun a h => strings_indexFunc_tree_IsName_1.f k (a.1) (a.2.1) (a.2.2) h) :=
  told_of fun a h q e => fn_of (c := strings_indexFunc_tree_IsName_1.body) (strings_indexFunc_tree_IsName_1.TS hX k) Try.func120 (by kernel_rfl) (hX.no 120 _ h (by decide))
    (by
      have e : need (strings_indexFunc_tree_IsName_1.an k) strings_indexFunc_tree_IsName_1.body 1 = [(Code.loop strings_indexFunc_tree_IsName_1.c26, lrun [(1, (.fn 102 0)), (2, .bool), (10, .ptr)] (some [(6, (.int .i64))]) [] 0 (fun a h => strings_indexFunc_tree_IsName_1.l0 k k (a.1) (a.2.1) (a.2.2) h))] := by kernel_rfl
      rw [e]; intro q hq
      rcases List.mem_cons.1 hq with rfl | hq
      · exact strings_indexFunc_tree_IsName_1.l0_pass hX k k
      cases hq)
    ((strings_indexFunc_tree_IsName_1.eq k a h).symm.trans e)
/-! ### strings.IndexFunc -/
noncomputable def strings_IndexFunc_tree_IsName_1.f (k : Nat) (a0 : ByteArray) (a1 : Unit) (h : H) : Option ((Int) × H) :=
  (strings_indexFunc_tree_IsName_1.f k a0 () true h).bind fun q1 =>
    some (q1.1, q1.2)
noncomputable def strings_IndexFunc_tree_IsName_1.T (k : Nat) : Tbl := tblOf [⟨120, chkF [(1, 102)], wr [.str, (.fn 102 0), .bool] [(.int .i64)] (fun a h => strings_indexFunc_tree_IsName_1.f k (a.1) (a.2.1) (a.2.2) h)⟩]
noncomputable def strings_IndexFunc_tree_IsName_1.an (k : Nat) (p : Nat) : Option Ann := none
noncomputable def strings_IndexFunc_tree_IsName_1.body : Code := (Try.f116.body).getD .skip
set_option maxRecDepth 100000 in
theorem strings_IndexFunc_tree_IsName_1.TS {C : FuncId → Bool} {X : CallF} (hX : XOk C X) (k : Nat) : TblS Try.prog C X (strings_IndexFunc_tree_IsName_1.T k) := by
  refine tblOf_sound ?_
  intro e he
  rcases List.mem_cons.1 he with rfl | he
  · exact wr_told (strings_indexFunc_tree_IsName_1.told hX k)
  exact absurd he List.not_mem_nil
set_option maxRecDepth 100000 in
theorem strings_IndexFunc_tree_IsName_1.eq (k : Nat) (a : RT [.str, (.fn 102 0)]) (h : H) : (fun a h => strings_IndexFunc_tree_IsName_1.f k (a.1) (a.2) h) a h = kfun Try.prog (strings_IndexFunc_tree_IsName_1.T k) (strings_IndexFunc_tree_IsName_1.an k) (RT [(.int .i64)] × H) Try.f116 (encL [.str, (.fn 102 0)] a) h (fun vs h' => (decL [(.int .i64)] vs).bind fun x => some (x, h')) := by kernel_rfl
set_option maxRecDepth 100000 in
theorem strings_IndexFunc_tree_IsName_1.told {C : FuncId → Bool} {X : CallF} (hX : XOk C X) (k : Nat) : Den.Told Try.prog C X 116 [.str, (.fn 102 0)] [(.int .i64)] (fun a h => strings_IndexFunc_tree_IsName_1.f k (a.1) (a.2) h) :=
  told_of fun a h q e => fn_of (c := strings_IndexFunc_tree_IsName_1.body) (strings_IndexFunc_tree_IsName_1.TS hX k) Try.func116 (by kernel_rfl) (hX.no 116 _ h (by decide))
    (by
      have e : need (strings_IndexFunc_tree_IsName_1.an k) strings_IndexFunc_tree_IsName_1.body 1 = [] := by kernel_rfl
      rw [e]; intro q hq; cases hq)
    ((strings_IndexFunc_tree_IsName_1.eq k a h).symm.trans e)
/-! ### strings.ContainsFunc -/
noncomputable def strings_ContainsFunc_tree_IsName_1.f (k : Nat) (a0 : ByteArray) (a1 : Unit) (h : H) : Option ((Bool) × H) :=
  (strings_IndexFunc_tree_IsName_1.f k a0 () h).bind fun q1 =>
    some (decide (q1.1 ≥ (0 : Int)), q1.2)
noncomputable def strings_ContainsFunc_tree_IsName_1.T (k : Nat) : Tbl := tblOf [⟨116, chkF [(1, 102)], wr [.str, (.fn 102 0)] [(.int .i64)] (fun a h => strings_IndexFunc_tree_IsName_1.f k (a.1) (a.2) h)⟩]
noncomputable def strings_ContainsFunc_tree_IsName_1.an (k : Nat) (p : Nat) : Option Ann := none
noncomputable def strings_ContainsFunc_tree_IsName_1.body : Code := (Try.f101.body).getD .skip
set_option maxRecDepth 100000 in
theorem strings_ContainsFunc_tree_IsName_1.TS {C : FuncId → Bool} {X : CallF} (hX : XOk C X) (k : Nat) : TblS Try.prog C X (strings_ContainsFunc_tree_IsName_1.T k) := by
  refine tblOf_sound ?_
  intro e he
  rcases List.mem_cons.1 he with rfl | he
  · exact wr_told (strings_IndexFunc_tree_IsName_1.told hX k)
  exact absurd he List.not_mem_nil
set_option maxRecDepth 100000 in
theorem strings_ContainsFunc_tree_IsName_1.eq (k : Nat) (a : RT [.str, (.fn 102 0)]) (h : H) : (fun a h => strings_ContainsFunc_tree_IsName_1.f k (a.1) (a.2) h) a h = kfun Try.prog (strings_ContainsFunc_tree_IsName_1.T k) (strings_ContainsFunc_tree_IsName_1.an k) (RT [.bool] × H) Try.f101 (encL [.str, (.fn 102 0)] a) h (fun vs h' => (decL [.bool] vs).bind fun x => some (x, h')) := by kernel_rfl
set_option maxRecDepth 100000 in
theorem strings_ContainsFunc_tree_IsName_1.told {C : FuncId → Bool} {X : CallF} (hX : XOk C X) (k : Nat) : Den.Told Try.prog C X 101 [.str, (.fn 102 0)] [.bool] (fun a h => strings_ContainsFunc_tree_IsName_1.f k (a.1) (a.2) h) :=
  told_of fun a h q e => fn_of (c := strings_ContainsFunc_tree_IsName_1.body) (strings_ContainsFunc_tree_IsName_1.TS hX k) Try.func101 (by kernel_rfl) (hX.no 101 _ h (by decide))
    (by
      have e : need (strings_ContainsFunc_tree_IsName_1.an k) strings_ContainsFunc_tree_IsName_1.body 1 = [] := by kernel_rfl
      rw [e]; intro q hq; cases hq)
    ((strings_ContainsFunc_tree_IsName_1.eq k a h).symm.trans e)
/-! ### corbel/tree.IsName -/
noncomputable def tree_IsName.f (k : Nat) (a0 : ByteArray) (h : H) : Option ((Bool) × H) :=
  (strings_ContainsFunc_tree_IsName_1.f k a0 () h).bind fun q1 =>
    (cond (decide ((Int.ofNat a0.data.toList.length) ≥ (1 : Int))) (some (decide ((Int.ofNat a0.data.toList.length) ≤ (8 : Int)), q1.2))
      (some (false, q1.2))).bind fun g2 =>
    (cond g2.1 (some (!q1.1, g2.2))
      (some (false, g2.2))).bind fun g3 =>
    some (g3.1, g3.2)
noncomputable def tree_IsName.T (k : Nat) : Tbl := tblOf [⟨101, chkF [(1, 102)], wr [.str, (.fn 102 0)] [.bool] (fun a h => strings_ContainsFunc_tree_IsName_1.f k (a.1) (a.2) h)⟩]
noncomputable def tree_IsName.an (k : Nat) (p : Nat) : Option Ann := none
noncomputable def tree_IsName.body : Code := (Try.f65.body).getD .skip
set_option maxRecDepth 100000 in
theorem tree_IsName.TS {C : FuncId → Bool} {X : CallF} (hX : XOk C X) (k : Nat) : TblS Try.prog C X (tree_IsName.T k) := by
  refine tblOf_sound ?_
  intro e he
  rcases List.mem_cons.1 he with rfl | he
  · exact wr_told (strings_ContainsFunc_tree_IsName_1.told hX k)
  exact absurd he List.not_mem_nil
set_option maxRecDepth 100000 in
theorem tree_IsName.eq (k : Nat) (a : RT [.str]) (h : H) : (fun a h => tree_IsName.f k a h) a h = kfun Try.prog (tree_IsName.T k) (tree_IsName.an k) (RT [.bool] × H) Try.f65 (encL [.str] a) h (fun vs h' => (decL [.bool] vs).bind fun x => some (x, h')) := by kernel_rfl
set_option maxRecDepth 100000 in
theorem tree_IsName.told {C : FuncId → Bool} {X : CallF} (hX : XOk C X) (k : Nat) : Den.Told Try.prog C X 65 [.str] [.bool] (fun a h => tree_IsName.f k a h) :=
  told_of fun a h q e => fn_of (c := tree_IsName.body) (tree_IsName.TS hX k) Try.func65 (by kernel_rfl) (hX.no 65 _ h (by decide))
    (by
      have e : need (tree_IsName.an k) tree_IsName.body 1 = [] := by kernel_rfl
      rw [e]; intro q hq; cases hq)
    ((tree_IsName.eq k a h).symm.trans e)
/-! ### corbel/extent.Right$1 -/
noncomputable def extent_Right_1.f (k : Nat) (a0 : Int) (h : H) : Option ((Bool) × H) :=
  (cond (a0 != (0 : Int)) ((cond (decide (a0 < (17 : Int))) (some (true, h))
      (some (decide (a0 ≥ (40 : Int)), h))).bind fun g1 =>
    some (g1.1, g1.2))
      (some (false, h))).bind fun g2 =>
    some (g2.1, g2.2)
noncomputable def extent_Right_1.T (k : Nat) : Tbl := tblOf []
noncomputable def extent_Right_1.an (k : Nat) (p : Nat) : Option Ann := none
noncomputable def extent_Right_1.body : Code := (Try.f72.body).getD .skip
set_option maxRecDepth 100000 in
theorem extent_Right_1.TS {C : FuncId → Bool} {X : CallF} (hX : XOk C X) (k : Nat) : TblS Try.prog C X (extent_Right_1.T k) := by
  refine tblOf_sound ?_
  intro e he
  exact absurd he List.not_mem_nil
set_option maxRecDepth 100000 in
theorem extent_Right_1.eq (k : Nat) (a : RT [(.int .i64)]) (h : H) : (fun a h => extent_Right_1.f k a h) a h = kfun Try.prog (extent_Right_1.T k) (extent_Right_1.an k) (RT [.bool] × H) Try.f72 (encL [(.int .i64)] a) h (fun vs h' => (decL [.bool] vs).bind fun x => some (x, h')) := by kernel_rfl
set_option maxRecDepth 100000 in
theorem extent_Right_1.told {C : FuncId → Bool} {X : CallF} (hX : XOk C X) (k : Nat) : Den.Told Try.prog C X 72 [(.int .i64)] [.bool] (fun a h => extent_Right_1.f k a h) :=
  told_of fun a h q e => fn_of (c := extent_Right_1.body) (extent_Right_1.TS hX k) Try.func72 (by kernel_rfl) (hX.no 72 _ h (by decide))
    (by
      have e : need (extent_Right_1.an k) extent_Right_1.body 1 = [] := by kernel_rfl
      rw [e]; intro q hq; cases hq)
    ((extent_Right_1.eq k a h).symm.trans e)
/-! ### slices.IndexFunc[[]int,int] -/
noncomputable def slices_IndexFunc_int_int_extent_Right_1.l0 (k : Nat) (n : Nat) : Sl → Unit → Int → Int → H → Option (((Int) ⊕ (Unit)) × H) :=
  Nat.rec (motive := fun _ => Sl → Unit → Int → Int → H → Option (((Int) ⊕ (Unit)) × H)) (fun _ _ _ _ _ => none) (fun _ ih x1 x2 x3 x4 h5 => cond (decide (x4 < x3))
      ((asP (ixs 1 x1.a x1.n x4)).bind fun p6 =>
    (asI .i64 (ldc h5 p6)).bind fun n7 =>
    (extent_Right_1.f k n7 h5).bind fun q8 =>
    cond q8.1
      (some (Sum.inl x4, q8.2))
      (ih x1 () x3 (wrapA .i64 (x4 + (1 : Int))) q8.2))
      (some (Sum.inr (), h5))) n
theorem slices_IndexFunc_int_int_extent_Right_1.l0_zero (k : Nat) (x1 : Sl) (x2 : Unit) (x3 : Int) (x4 : Int) (h5 : H) : slices_IndexFunc_int_int_extent_Right_1.l0 k 0 x1 x2 x3 x4 h5 = none := rfl
theorem slices_IndexFunc_int_int_extent_Right_1.l0_succ (k n : Nat) (x1 : Sl) (x2 : Unit) (x3 : Int) (x4 : Int) (h5 : H) : slices_IndexFunc_int_int_extent_Right_1.l0 k (n + 1) x1 x2 x3 x4 h5 = (cond (decide (x4 < x3))
      ((asP (ixs 1 x1.a x1.n x4)).bind fun p6 =>
    (asI .i64 (ldc h5 p6)).bind fun n7 =>
    (extent_Right_1.f k n7 h5).bind fun q8 =>
    cond q8.1
      (some (Sum.inl x4, q8.2))
      (slices_IndexFunc_int_int_extent_Right_1.l0 k n x1 () x3 (wrapA .i64 (x4 + (1 : Int))) q8.2))
      (some (Sum.inr (), h5))) := rfl
noncomputable def slices_IndexFunc_int_int_extent_Right_1.f (k : Nat) (a0 : Sl) (a1 : Unit) (h : H) : Option ((Int) × H) :=
  (slices_IndexFunc_int_int_extent_Right_1.l0 k k a0 () (Int.ofNat a0.n) (0 : Int) h).bind fun w9 =>
    match w9.1 with
    | .inl r10 => some (r10, w9.2)
    | .inr o11 => some ((-1 : Int), w9.2)
noncomputable def slices_IndexFunc_int_int_extent_Right_1.T (k : Nat) : Tbl := tblOf [⟨72, anyArgs, wr [(.int .i64)] [.bool] (fun a h => extent_Right_1.f k a h)⟩]
noncomputable def slices_IndexFunc_int_int_extent_Right_1.an (k : Nat) (p : Nat) : Option Ann := cond (Nat.beq p 26) (some (.pass [] (lrun [(0, .sl), (1, (.fn 72 0)), (7, (.int .i64)), (8, (.int .i64))] (some [(4, (.int .i64))]) [] 0 (fun a h => slices_IndexFunc_int_int_extent_Right_1.l0 k k (a.1) (a.2.1) (a.2.2.1) (a.2.2.2) h))))
  (none)
noncomputable def slices_IndexFunc_int_int_extent_Right_1.body : Code := (Try.f104.body).getD .skip
noncomputable def slices_IndexFunc_int_int_extent_Right_1.c26 : Code := cat slices_IndexFunc_int_int_extent_Right_1.body [1, 0, 1, 0, 0]
set_option maxRecDepth 100000 in
theorem slices_IndexFunc_int_int_extent_Right_1.TS {C : FuncId → Bool} {X : CallF} (hX : XOk C X) (k : Nat) : TblS Try.prog C X (slices_IndexFunc_int_int_extent_Right_1.T k) := by
  refine tblOf_sound ?_
  intro e he
  rcases List.mem_cons.1 he with rfl | he
  · exact wr_told (extent_Right_1.told hX k)
  exact absurd he List.not_mem_nil
set_option maxRecDepth 100000 in
theorem slices_IndexFunc_int_int_extent_Right_1.l0_pass {C : FuncId → Bool} {X : CallF} (hX : XOk C X) (k n : Nat) : PassS Try.prog C X 19 (.loop slices_IndexFunc_int_int_extent_Right_1.c26) (lrun [(0, .sl), (1, (.fn 72 0)), (7, (.int .i64)), (8, (.int .i64))] (some [(4, (.int .i64))]) [] 0 (fun a h => slices_IndexFunc_int_int_extent_Right_1.l0 k n (a.1) (a.2.1) (a.2.2.1) (a.2.2.2) h)) :=
  loop_pass (ins := [(0, .sl), (1, (.fn 72 0)), (7, (.int .i64)), (8, (.int .i64))]) (rets := (some [(4, (.int .i64))])) (outs := []) (id := 0) (tbl := slices_IndexFunc_int_int_extent_Right_1.T k) (an := slices_IndexFunc_int_int_extent_Right_1.an k) (pb := 52) (slices_IndexFunc_int_int_extent_Right_1.TS hX k) (fun n => (fun a h => slices_IndexFunc_int_int_extent_Right_1.l0 k n (a.1) (a.2.1) (a.2.2.1) (a.2.2.2) h)) (fun a h => rfl) (fun n a h => by kernel_rfl)
    (by
      have e : need (slices_IndexFunc_int_int_extent_Right_1.an k) slices_IndexFunc_int_int_extent_Right_1.c26 52 = [] := by kernel_rfl
      rw [e]; intro q hq; cases hq) n
set_option maxRecDepth 100000 in
theorem slices_IndexFunc_int_int_extent_Right_1.eq (k : Nat) (a : RT [.sl, (.fn 72 0)]) (h : H) : (fun a h => slices_IndexFunc_int_int_extent_Right_1.f k (a.1) (a.2) h) a h = kfun Try.prog (slices_IndexFunc_int_int_extent_Right_1.T k) (slices_IndexFunc_int_int_extent_Right_1.an k) (RT [(.int .i64)] × H) Try.f104 (encL [.sl, (.fn 72 0)] a) h (fun vs h' => (decL [(.int .i64)] vs).bind fun x => some (x, h')) := by kernel_rfl
set_option maxRecDepth 100000 in
theorem slices_IndexFunc_int_int_extent_Right_1.told {C : FuncId → Bool} {X : CallF} (hX : XOk C X) (k : Nat) : Den.Told Try.prog C X 104 [.sl, (.fn 72 0)] [(.int .i64)] (fun a h => slices_IndexFunc_int_int_extent_Right_1.f k (a.1) (a.2) h) :=
  told_of fun a h q e => fn_of (c := slices_IndexFunc_int_int_extent_Right_1.body) (slices_IndexFunc_int_int_extent_Right_1.TS hX k) Try.func104 (by kernel_rfl) (hX.no 104 _ h (by decide))
    (by
      have e : need (slices_IndexFunc_int_int_extent_Right_1.an k) slices_IndexFunc_int_int_extent_Right_1.body 1 = [(Code.loop slices_IndexFunc_int_int_extent_Right_1.c26, lrun [(0, .sl), (1, (.fn 72 0)), (7, (.int .i64)), (8, (.int .i64))] (some [(4, (.int .i64))]) [] 0 (fun a h => slices_IndexFunc_int_int_extent_Right_1.l0 k k (a.1) (a.2.1) (a.2.2.1) (a.2.2.2) h))] := by kernel_rfl
      rw [e]; intro q hq
      rcases List.mem_cons.1 hq with rfl | hq
      · exact slices_IndexFunc_int_int_extent_Right_1.l0_pass hX k k
      cases hq)
    ((slices_IndexFunc_int_int_extent_Right_1.eq k a h).symm.trans e)
/-! ### slices.ContainsFunc[[]int,int] -/
noncomputable def slices_ContainsFunc_int_int_extent_Right_1.f (k : Nat) (a0 : Sl) (a1 : Unit) (h : H) : Option ((Bool) × H) :=
  (slices_IndexFunc_int_int_extent_Right_1.f k a0 () h).bind fun q1 =>
    some (decide (q1.1 ≥ (0 : Int)), q1.2)
noncomputable def slices_ContainsFunc_int_int_extent_Right_1.T (k : Nat) : Tbl := tblOf [⟨104, chkF [(1, 72)], wr [.sl, (.fn 72 0)] [(.int .i64)] (fun a h => slices_IndexFunc_int_int_extent_Right_1.f k (a.1) (a.2) h)⟩]
noncomputable def slices_ContainsFunc_int_int_extent_Right_1.an (k : Nat) (p : Nat) : Option Ann := none
noncomputable def slices_ContainsFunc_int_int_extent_Right_1.body : Code := (Try.f71.body).getD .skip
set_option maxRecDepth 100000 in
theorem slices_ContainsFunc_int_int_extent_Right_1.TS {C : FuncId → Bool} {X : CallF} (hX : XOk C X) (k : Nat) : TblS Try.prog C X (slices_ContainsFunc_int_int_extent_Right_1.T k) := by
  refine tblOf_sound ?_
  intro e he
  rcases List.mem_cons.1 he with rfl | he
  · exact wr_told (slices_IndexFunc_int_int_extent_Right_1.told hX k)
  exact absurd he List.not_mem_nil
set_option maxRecDepth 100000 in
theorem slices_ContainsFunc_int_int_extent_Right_1.eq (k : Nat) (a : RT [.sl, (.fn 72 0)]) (h : H) : (fun a h => slices_ContainsFunc_int_int_extent_Right_1.f k (a.1) (a.2) h) a h = kfun Try.prog (slices_ContainsFunc_int_int_extent_Right_1.T k) (slices_ContainsFunc_int_int_extent_Right_1.an k) (RT [.bool] × H) Try.f71 (encL [.sl, (.fn 72 0)] a) h (fun vs h' => (decL [.bool] vs).bind fun x => some (x, h')) := by kernel_rfl
set_option maxRecDepth 100000 in
theorem slices_ContainsFunc_int_int_extent_Right_1.told {C : FuncId → Bool} {X : CallF} (hX : XOk C X) (k : Nat) : Den.Told Try.prog C X 71 [.sl, (.fn 72 0)] [.bool] (fun a h => slices_ContainsFunc_int_int_extent_Right_1.f k (a.1) (a.2) h) :=
  told_of fun a h q e => fn_of (c := slices_ContainsFunc_int_int_extent_Right_1.body) (slices_ContainsFunc_int_int_extent_Right_1.TS hX k) Try.func71 (by kernel_rfl) (hX.no 71 _ h (by decide))
    (by
      have e : need (slices_ContainsFunc_int_int_extent_Right_1.an k) slices_ContainsFunc_int_int_extent_Right_1.body 1 = [] := by kernel_rfl
      rw [e]; intro q hq; cases hq)
    ((slices_ContainsFunc_int_int_extent_Right_1.eq k a h).symm.trans e)
/-! ### corbel/extent.sized -/
noncomputable def extent_sized.f (k : Nat) (a0 : Int) (h : H) : Option ((Bool) × H) :=
  (cond (decide (a0 ≥ (0 : Int))) (some (decide (a0 ≤ (256 : Int)), h))
      (some (false, h))).bind fun g1 =>
    (cond g1.1 (some ((a0.tmod (8 : Int)) == (0 : Int), g1.2))
      (some (false, g1.2))).bind fun g2 =>
    some (g2.1, g2.2)
noncomputable def extent_sized.T (k : Nat) : Tbl := tblOf []
noncomputable def extent_sized.an (k : Nat) (p : Nat) : Option Ann := none
noncomputable def extent_sized.body : Code := (Try.f69.body).getD .skip
set_option maxRecDepth 100000 in
theorem extent_sized.TS {C : FuncId → Bool} {X : CallF} (hX : XOk C X) (k : Nat) : TblS Try.prog C X (extent_sized.T k) := by
  refine tblOf_sound ?_
  intro e he
  exact absurd he List.not_mem_nil
set_option maxRecDepth 100000 in
theorem extent_sized.eq (k : Nat) (a : RT [(.int .i64)]) (h : H) : (fun a h => extent_sized.f k a h) a h = kfun Try.prog (extent_sized.T k) (extent_sized.an k) (RT [.bool] × H) Try.f69 (encL [(.int .i64)] a) h (fun vs h' => (decL [.bool] vs).bind fun x => some (x, h')) := by kernel_rfl
set_option maxRecDepth 100000 in
theorem extent_sized.told {C : FuncId → Bool} {X : CallF} (hX : XOk C X) (k : Nat) : Den.Told Try.prog C X 69 [(.int .i64)] [.bool] (fun a h => extent_sized.f k a h) :=
  told_of fun a h q e => fn_of (c := extent_sized.body) (extent_sized.TS hX k) Try.func69 (by kernel_rfl) (hX.no 69 _ h (by decide))
    (by
      have e : need (extent_sized.an k) extent_sized.body 1 = [] := by kernel_rfl
      rw [e]; intro q hq; cases hq)
    ((extent_sized.eq k a h).symm.trans e)
/-! ### corbel/extent.Right -/
noncomputable def extent_Right.f (k : Nat) (a0 : Int) (a1 : Sl) (h : H) : Option ((Bool) × H) :=
  (slices_ContainsFunc_int_int_extent_Right_1.f k a1 () h).bind fun q1 =>
    (extent_sized.f k a0 q1.2).bind fun q2 =>
    (cond q2.1 (some ((Int.ofNat a1.n) == (wrapA .i64 (a0.tdiv (8 : Int))), q2.2))
      (some (false, q2.2))).bind fun g3 =>
    (cond g3.1 (some (!q1.1, g3.2))
      (some (false, g3.2))).bind fun g4 =>
    some (g4.1, g4.2)
noncomputable def extent_Right.T (k : Nat) : Tbl := tblOf [⟨71, chkF [(1, 72)], wr [.sl, (.fn 72 0)] [.bool] (fun a h => slices_ContainsFunc_int_int_extent_Right_1.f k (a.1) (a.2) h)⟩,
  ⟨69, anyArgs, wr [(.int .i64)] [.bool] (fun a h => extent_sized.f k a h)⟩]
noncomputable def extent_Right.an (k : Nat) (p : Nat) : Option Ann := none
noncomputable def extent_Right.body : Code := (Try.f30.body).getD .skip
set_option maxRecDepth 100000 in
theorem extent_Right.TS {C : FuncId → Bool} {X : CallF} (hX : XOk C X) (k : Nat) : TblS Try.prog C X (extent_Right.T k) := by
  refine tblOf_sound ?_
  intro e he
  rcases List.mem_cons.1 he with rfl | he
  · exact wr_told (slices_ContainsFunc_int_int_extent_Right_1.told hX k)
  rcases List.mem_cons.1 he with rfl | he
  · exact wr_told (extent_sized.told hX k)
  exact absurd he List.not_mem_nil
set_option maxRecDepth 100000 in
theorem extent_Right.eq (k : Nat) (a : RT [(.int .i64), .sl]) (h : H) : (fun a h => extent_Right.f k (a.1) (a.2) h) a h = kfun Try.prog (extent_Right.T k) (extent_Right.an k) (RT [.bool] × H) Try.f30 (encL [(.int .i64), .sl] a) h (fun vs h' => (decL [.bool] vs).bind fun x => some (x, h')) := by kernel_rfl
set_option maxRecDepth 100000 in
theorem extent_Right.told {C : FuncId → Bool} {X : CallF} (hX : XOk C X) (k : Nat) : Den.Told Try.prog C X 30 [(.int .i64), .sl] [.bool] (fun a h => extent_Right.f k (a.1) (a.2) h) :=
  told_of fun a h q e => fn_of (c := extent_Right.body) (extent_Right.TS hX k) Try.func30 (by kernel_rfl) (hX.no 30 _ h (by decide))
    (by
      have e : need (extent_Right.an k) extent_Right.body 1 = [] := by kernel_rfl
      rw [e]; intro q hq; cases hq)
    ((extent_Right.eq k a h).symm.trans e)
/-! ### corbel/tree.at$1 -/
noncomputable def tree_at_1.f (k : Nat) (a0 : (ByteArray × ByteArray × Bool × Int × Sl)) (a1 : ByteArray) (h : H) : Option ((Int) × H) :=
  (asT (ldc (newR h 58 5 [(Value.string a0.1), (Value.string a0.2.1), (Value.bool a0.2.2.1), (Value.int .i64 a0.2.2.2.1), (Value.slice a0.2.2.2.2.a a0.2.2.2.2.n a0.2.2.2.2.c)]) (some ⟨h.next, 0, none⟩))).bind fun s1 =>
    some ((cmpB s1 a1), (newR h 58 5 [(Value.string a0.1), (Value.string a0.2.1), (Value.bool a0.2.2.1), (Value.int .i64 a0.2.2.2.1), (Value.slice a0.2.2.2.2.a a0.2.2.2.2.n a0.2.2.2.2.c)]))
noncomputable def tree_at_1.T (k : Nat) : Tbl := tblOf [⟨114, anyArgs, cmpW⟩]
noncomputable def tree_at_1.an (k : Nat) (p : Nat) : Option Ann := none
noncomputable def tree_at_1.body : Code := (Try.f113.body).getD .skip
set_option maxRecDepth 100000 in
theorem tree_at_1.TS {C : FuncId → Bool} {X : CallF} (hX : XOk C X) (hK114 : CmpOk X 114) (k : Nat) : TblS Try.prog C X (tree_at_1.T k) := by
  refine tblOf_sound ?_
  intro e he
  rcases List.mem_cons.1 he with rfl | he
  · exact cmpW_told hK114
  exact absurd he List.not_mem_nil
set_option maxRecDepth 100000 in
theorem tree_at_1.eq (k : Nat) (a : RT [(.st [.str, .str, .bool, (.int .i64), .sl]), .str]) (h : H) : (fun a h => tree_at_1.f k (a.1) (a.2) h) a h = kfun Try.prog (tree_at_1.T k) (tree_at_1.an k) (RT [(.int .i64)] × H) Try.f113 (encL [(.st [.str, .str, .bool, (.int .i64), .sl]), .str] a) h (fun vs h' => (decL [(.int .i64)] vs).bind fun x => some (x, h')) := by kernel_rfl
set_option maxRecDepth 100000 in
theorem tree_at_1.told {C : FuncId → Bool} {X : CallF} (hX : XOk C X) (hK114 : CmpOk X 114) (k : Nat) : Den.Told Try.prog C X 113 [(.st [.str, .str, .bool, (.int .i64), .sl]), .str] [(.int .i64)] (fun a h => tree_at_1.f k (a.1) (a.2) h) :=
  told_of fun a h q e => fn_of (c := tree_at_1.body) (tree_at_1.TS hX hK114 k) Try.func113 (by kernel_rfl) (hX.no 113 _ h (by decide))
    (by
      have e : need (tree_at_1.an k) tree_at_1.body 1 = [] := by kernel_rfl
      rw [e]; intro q hq; cases hq)
    ((tree_at_1.eq k a h).symm.trans e)
/-! ### slices.BinarySearchFunc[[]corbel/api.Volume,corbel/api.Volume,string] -/
noncomputable def slices_BinarySearchFunc_api_Volume_api_Volume_string_tree_at_1.l0 (k : Nat) (n : Nat) : Sl → ByteArray → Unit → Int → Int → Int → H → Option ((Int) × H) :=
  Nat.rec (motive := fun _ => Sl → ByteArray → Unit → Int → Int → Int → H → Option ((Int) × H)) (fun _ _ _ _ _ _ _ => none) (fun _ ih x1 x2 x3 x4 x5 x6 h7 => cond (decide (x5 < x6))
      ((asP (ixs 5 x1.a x1.n (wrapA .i64 ((wrapA .u64 (wrapA .i64 (x5 + x6))).fdiv (2 ^ 1))))).bind fun p8 =>
    (asSt [.str, .str, .bool, (.int .i64), .sl] (lda 5 h7 p8)).bind fun s9 =>
    (tree_at_1.f k (s9.1, s9.2.1, s9.2.2.1, s9.2.2.2.1, s9.2.2.2.2) x2 h7).bind fun q10 =>
    (cond (decide (q10.1 < (0 : Int)))
      (some ((wrapA .i64 ((wrapA .i64 ((wrapA .u64 (wrapA .i64 (x5 + x6))).fdiv (2 ^ 1))) + (1 : Int)), x6), q10.2))
      (some ((x5, wrapA .i64 ((wrapA .u64 (wrapA .i64 (x5 + x6))).fdiv (2 ^ 1))), q10.2)) : Option ((Int × Int) × H)).bind fun j11 =>
    ih x1 x2 () x4 j11.1.1 j11.1.2 j11.2)
      (some (x5, h7))) n
theorem slices_BinarySearchFunc_api_Volume_api_Volume_string_tree_at_1.l0_zero (k : Nat) (x1 : Sl) (x2 : ByteArray) (x3 : Unit) (x4 : Int) (x5 : Int) (x6 : Int) (h7 : H) : slices_BinarySearchFunc_api_Volume_api_Volume_string_tree_at_1.l0 k 0 x1 x2 x3 x4 x5 x6 h7 = none := rfl
theorem slices_BinarySearchFunc_api_Volume_api_Volume_string_tree_at_1.l0_succ (k n : Nat) (x1 : Sl) (x2 : ByteArray) (x3 : Unit) (x4 : Int) (x5 : Int) (x6 : Int) (h7 : H) : slices_BinarySearchFunc_api_Volume_api_Volume_string_tree_at_1.l0 k (n + 1) x1 x2 x3 x4 x5 x6 h7 = (cond (decide (x5 < x6))
      ((asP (ixs 5 x1.a x1.n (wrapA .i64 ((wrapA .u64 (wrapA .i64 (x5 + x6))).fdiv (2 ^ 1))))).bind fun p8 =>
    (asSt [.str, .str, .bool, (.int .i64), .sl] (lda 5 h7 p8)).bind fun s9 =>
    (tree_at_1.f k (s9.1, s9.2.1, s9.2.2.1, s9.2.2.2.1, s9.2.2.2.2) x2 h7).bind fun q10 =>
    (cond (decide (q10.1 < (0 : Int)))
      (some ((wrapA .i64 ((wrapA .i64 ((wrapA .u64 (wrapA .i64 (x5 + x6))).fdiv (2 ^ 1))) + (1 : Int)), x6), q10.2))
      (some ((x5, wrapA .i64 ((wrapA .u64 (wrapA .i64 (x5 + x6))).fdiv (2 ^ 1))), q10.2)) : Option ((Int × Int) × H)).bind fun j11 =>
    slices_BinarySearchFunc_api_Volume_api_Volume_string_tree_at_1.l0 k n x1 x2 () x4 j11.1.1 j11.1.2 j11.2)
      (some (x5, h7))) := rfl
noncomputable def slices_BinarySearchFunc_api_Volume_api_Volume_string_tree_at_1.f (k : Nat) (a0 : Sl) (a1 : ByteArray) (a2 : Unit) (h : H) : Option ((Int × Bool) × H) :=
  (slices_BinarySearchFunc_api_Volume_api_Volume_string_tree_at_1.l0 k k a0 a1 () (Int.ofNat a0.n) (0 : Int) (Int.ofNat a0.n) h).bind fun w12 =>
    (cond (decide (w12.1 < (Int.ofNat a0.n))) ((asP (ixs 5 a0.a a0.n w12.1)).bind fun p13 =>
    (asSt [.str, .str, .bool, (.int .i64), .sl] (lda 5 w12.2 p13)).bind fun s14 =>
    (tree_at_1.f k (s14.1, s14.2.1, s14.2.2.1, s14.2.2.2.1, s14.2.2.2.2) a1 w12.2).bind fun q15 =>
    some (q15.1 == (0 : Int), q15.2))
      (some (false, w12.2))).bind fun g16 =>
    some ((w12.1, g16.1), g16.2)
noncomputable def slices_BinarySearchFunc_api_Volume_api_Volume_string_tree_at_1.T (k : Nat) : Tbl := tblOf [⟨113, anyArgs, wr [(.st [.str, .str, .bool, (.int .i64), .sl]), .str] [(.int .i64)] (fun a h => tree_at_1.f k (a.1) (a.2) h)⟩]
noncomputable def slices_BinarySearchFunc_api_Volume_api_Volume_string_tree_at_1.an (k : Nat) (p : Nat) : Option Ann := cond (Nat.beq p 60) (some (.pass [0, 1, 2, 8] (lrun [(0, .sl), (1, .str), (2, (.fn 113 0)), (8, (.int .i64)), (9, (.int .i64)), (10, (.int .i64))] none [(9, (.int .i64))] 0 (fun a h => slices_BinarySearchFunc_api_Volume_api_Volume_string_tree_at_1.l0 k k (a.1) (a.2.1) (a.2.2.1) (a.2.2.2.1) (a.2.2.2.2.1) (a.2.2.2.2.2) h))))
  (cond (Nat.beq p 1931) (some (.join [0, 1, 2, 8] none [(9, (.int .i64)), (10, (.int .i64))]))
  (none))
noncomputable def slices_BinarySearchFunc_api_Volume_api_Volume_string_tree_at_1.body : Code := (Try.f112.body).getD .skip
noncomputable def slices_BinarySearchFunc_api_Volume_api_Volume_string_tree_at_1.c60 : Code := cat slices_BinarySearchFunc_api_Volume_api_Volume_string_tree_at_1.body [1, 1, 1, 0, 0, 0]
set_option maxRecDepth 100000 in
theorem slices_BinarySearchFunc_api_Volume_api_Volume_string_tree_at_1.TS {C : FuncId → Bool} {X : CallF} (hX : XOk C X) (hK114 : CmpOk X 114) (k : Nat) : TblS Try.prog C X (slices_BinarySearchFunc_api_Volume_api_Volume_string_tree_at_1.T k) := by
  refine tblOf_sound ?_
  intro e he
  rcases List.mem_cons.1 he with rfl | he
  · exact wr_told (tree_at_1.told hX hK114 k)
  exact absurd he List.not_mem_nil
set_option maxRecDepth 100000 in
theorem slices_BinarySearchFunc_api_Volume_api_Volume_string_tree_at_1.l0_pass {C : FuncId → Bool} {X : CallF} (hX : XOk C X) (hK114 : CmpOk X 114) (k n : Nat) : PassS Try.prog C X 49 (.loop slices_BinarySearchFunc_api_Volume_api_Volume_string_tree_at_1.c60) (lrun [(0, .sl), (1, .str), (2, (.fn 113 0)), (8, (.int .i64)), (9, (.int .i64)), (10, (.int .i64))] none [(9, (.int .i64))] 0 (fun a h => slices_BinarySearchFunc_api_Volume_api_Volume_string_tree_at_1.l0 k n (a.1) (a.2.1) (a.2.2.1) (a.2.2.2.1) (a.2.2.2.2.1) (a.2.2.2.2.2) h)) :=
  loop_pass (ins := [(0, .sl), (1, .str), (2, (.fn 113 0)), (8, (.int .i64)), (9, (.int .i64)), (10, (.int .i64))]) (rets := none) (outs := [(9, (.int .i64))]) (id := 0) (tbl := slices_BinarySearchFunc_api_Volume_api_Volume_string_tree_at_1.T k) (an := slices_BinarySearchFunc_api_Volume_api_Volume_string_tree_at_1.an k) (pb := 120) (slices_BinarySearchFunc_api_Volume_api_Volume_string_tree_at_1.TS hX hK114 k) (fun n => (fun a h => slices_BinarySearchFunc_api_Volume_api_Volume_string_tree_at_1.l0 k n (a.1) (a.2.1) (a.2.2.1) (a.2.2.2.1) (a.2.2.2.2.1) (a.2.2.2.2.2) h)) (fun a h => rfl) (fun n a h => by kernel_rfl)
    (by
      have e : need (slices_BinarySearchFunc_api_Volume_api_Volume_string_tree_at_1.an k) slices_BinarySearchFunc_api_Volume_api_Volume_string_tree_at_1.c60 120 = [] := by kernel_rfl
      rw [e]; intro q hq; cases hq) n
set_option maxRecDepth 100000 in
theorem slices_BinarySearchFunc_api_Volume_api_Volume_string_tree_at_1.eq (k : Nat) (a : RT [.sl, .str, (.fn 113 0)]) (h : H) : (fun a h => slices_BinarySearchFunc_api_Volume_api_Volume_string_tree_at_1.f k (a.1) (a.2.1) (a.2.2) h) a h = kfun Try.prog (slices_BinarySearchFunc_api_Volume_api_Volume_string_tree_at_1.T k) (slices_BinarySearchFunc_api_Volume_api_Volume_string_tree_at_1.an k) (RT [(.int .i64), .bool] × H) Try.f112 (encL [.sl, .str, (.fn 113 0)] a) h (fun vs h' => (decL [(.int .i64), .bool] vs).bind fun x => some (x, h')) := by kernel_rfl
set_option maxRecDepth 100000 in
theorem slices_BinarySearchFunc_api_Volume_api_Volume_string_tree_at_1.told {C : FuncId → Bool} {X : CallF} (hX : XOk C X) (hK114 : CmpOk X 114) (k : Nat) : Den.Told Try.prog C X 112 [.sl, .str, (.fn 113 0)] [(.int .i64), .bool] (fun a h => slices_BinarySearchFunc_api_Volume_api_Volume_string_tree_at_1.f k (a.1) (a.2.1) (a.2.2) h) :=
  told_of fun a h q e => fn_of (c := slices_BinarySearchFunc_api_Volume_api_Volume_string_tree_at_1.body) (slices_BinarySearchFunc_api_Volume_api_Volume_string_tree_at_1.TS hX hK114 k) Try.func112 (by kernel_rfl) (hX.no 112 _ h (by decide))
    (by
      have e : need (slices_BinarySearchFunc_api_Volume_api_Volume_string_tree_at_1.an k) slices_BinarySearchFunc_api_Volume_api_Volume_string_tree_at_1.body 1 = [(Code.loop slices_BinarySearchFunc_api_Volume_api_Volume_string_tree_at_1.c60, lrun [(0, .sl), (1, .str), (2, (.fn 113 0)), (8, (.int .i64)), (9, (.int .i64)), (10, (.int .i64))] none [(9, (.int .i64))] 0 (fun a h => slices_BinarySearchFunc_api_Volume_api_Volume_string_tree_at_1.l0 k k (a.1) (a.2.1) (a.2.2.1) (a.2.2.2.1) (a.2.2.2.2.1) (a.2.2.2.2.2) h))] := by kernel_rfl
      rw [e]; intro q hq
      rcases List.mem_cons.1 hq with rfl | hq
      · exact slices_BinarySearchFunc_api_Volume_api_Volume_string_tree_at_1.l0_pass hX hK114 k k
      cases hq)
    ((slices_BinarySearchFunc_api_Volume_api_Volume_string_tree_at_1.eq k a h).symm.trans e)
/-! ### corbel/tree.at -/
noncomputable def tree_at.f (k : Nat) (a0 : Sl) (a1 : ByteArray) (h : H) : Option ((Int × Bool) × H) :=
  (slices_BinarySearchFunc_api_Volume_api_Volume_string_tree_at_1.f k a0 a1 () h).bind fun q1 =>
    some ((q1.1.1, q1.1.2), q1.2)
noncomputable def tree_at.T (k : Nat) : Tbl := tblOf [⟨112, chkF [(2, 113)], wr [.sl, .str, (.fn 113 0)] [(.int .i64), .bool] (fun a h => slices_BinarySearchFunc_api_Volume_api_Volume_string_tree_at_1.f k (a.1) (a.2.1) (a.2.2) h)⟩]
noncomputable def tree_at.an (k : Nat) (p : Nat) : Option Ann := none
noncomputable def tree_at.body : Code := (Try.f92.body).getD .skip
set_option maxRecDepth 100000 in
theorem tree_at.TS {C : FuncId → Bool} {X : CallF} (hX : XOk C X) (hK114 : CmpOk X 114) (k : Nat) : TblS Try.prog C X (tree_at.T k) := by
  refine tblOf_sound ?_
  intro e he
  rcases List.mem_cons.1 he with rfl | he
  · exact wr_told (slices_BinarySearchFunc_api_Volume_api_Volume_string_tree_at_1.told hX hK114 k)
  exact absurd he List.not_mem_nil
set_option maxRecDepth 100000 in
theorem tree_at.eq (k : Nat) (a : RT [.sl, .str]) (h : H) : (fun a h => tree_at.f k (a.1) (a.2) h) a h = kfun Try.prog (tree_at.T k) (tree_at.an k) (RT [(.int .i64), .bool] × H) Try.f92 (encL [.sl, .str] a) h (fun vs h' => (decL [(.int .i64), .bool] vs).bind fun x => some (x, h')) := by kernel_rfl
set_option maxRecDepth 100000 in
theorem tree_at.told {C : FuncId → Bool} {X : CallF} (hX : XOk C X) (hK114 : CmpOk X 114) (k : Nat) : Den.Told Try.prog C X 92 [.sl, .str] [(.int .i64), .bool] (fun a h => tree_at.f k (a.1) (a.2) h) :=
  told_of fun a h q e => fn_of (c := tree_at.body) (tree_at.TS hX hK114 k) Try.func92 (by kernel_rfl) (hX.no 92 _ h (by decide))
    (by
      have e : need (tree_at.an k) tree_at.body 1 = [] := by kernel_rfl
      rw [e]; intro q hq; cases hq)
    ((tree_at.eq k a h).symm.trans e)
/-! ### corbel/tree.parented -/
noncomputable def tree_parented.f (k : Nat) (a0 : Sl) (a1 : (ByteArray × ByteArray × Bool × Int × Sl)) (h : H) : Option ((Bool) × H) :=
  (asT (ldc (newR h 58 5 [(Value.string a1.1), (Value.string a1.2.1), (Value.bool a1.2.2.1), (Value.int .i64 a1.2.2.2.1), (Value.slice a1.2.2.2.2.a a1.2.2.2.2.n a1.2.2.2.2.c)]) (some ⟨h.next, 1, none⟩))).bind fun s1 =>
    cond (s1.toList == (⟨#[]⟩ : ByteArray).toList)
      (some (true, (newR h 58 5 [(Value.string a1.1), (Value.string a1.2.1), (Value.bool a1.2.2.1), (Value.int .i64 a1.2.2.2.1), (Value.slice a1.2.2.2.2.a a1.2.2.2.2.n a1.2.2.2.2.c)])))
      ((asT (ldc (newR h 58 5 [(Value.string a1.1), (Value.string a1.2.1), (Value.bool a1.2.2.1), (Value.int .i64 a1.2.2.2.1), (Value.slice a1.2.2.2.2.a a1.2.2.2.2.n a1.2.2.2.2.c)]) (some ⟨h.next, 1, none⟩))).bind fun s2 =>
    (tree_at.f k a0 s2 (newR h 58 5 [(Value.string a1.1), (Value.string a1.2.1), (Value.bool a1.2.2.1), (Value.int .i64 a1.2.2.2.1), (Value.slice a1.2.2.2.2.a a1.2.2.2.2.n a1.2.2.2.2.c)])).bind fun q3 =>
    (cond q3.1.2 ((asT (ldc q3.2 (some ⟨h.next, 1, none⟩))).bind fun s4 =>
    (asT (ldc q3.2 (some ⟨h.next, 0, none⟩))).bind fun s5 =>
    some (!(s4.toList == s5.toList), q3.2, [], []))
      (some (false, q3.2, [], [])) : Option (Bool × H × LEs × EFs)).bind fun g6 =>
    (cond g6.1 ((asP (ixs 5 a0.a a0.n q3.1.1)).bind fun p7 =>
    (asP (fadd 2 p7)).bind fun p8 =>
    (asB (ldc g6.2.1 p8)).bind fun b9 =>
    (asB (ldc g6.2.1 (some ⟨h.next, 2, none⟩))).bind fun b10 =>
    some (!(b9 == b10), g6.2.1, [], []))
      (some (false, g6.2.1, [], [])) : Option (Bool × H × LEs × EFs)).bind fun g11 =>
    some (g11.1, g11.2.1))
noncomputable def tree_parented.T (k : Nat) : Tbl := tblOf [⟨92, anyArgs, wr [.sl, .str] [(.int .i64), .bool] (fun a h => tree_at.f k (a.1) (a.2) h)⟩]
noncomputable def tree_parented.an (k : Nat) (p : Nat) : Option Ann := none
noncomputable def tree_parented.body : Code := (Try.f94.body).getD .skip
set_option maxRecDepth 100000 in
theorem tree_parented.TS {C : FuncId → Bool} {X : CallF} (hX : XOk C X) (hK114 : CmpOk X 114) (k : Nat) : TblS Try.prog C X (tree_parented.T k) := by
  refine tblOf_sound ?_
  intro e he
  rcases List.mem_cons.1 he with rfl | he
  · exact wr_told (tree_at.told hX hK114 k)
  exact absurd he List.not_mem_nil
set_option maxRecDepth 100000 in
theorem tree_parented.eq (k : Nat) (a : RT [.sl, (.st [.str, .str, .bool, (.int .i64), .sl])]) (h : H) : (fun a h => tree_parented.f k (a.1) (a.2) h) a h = kfun Try.prog (tree_parented.T k) (tree_parented.an k) (RT [.bool] × H) Try.f94 (encL [.sl, (.st [.str, .str, .bool, (.int .i64), .sl])] a) h (fun vs h' => (decL [.bool] vs).bind fun x => some (x, h')) := by kernel_rfl
set_option maxRecDepth 100000 in
theorem tree_parented.told {C : FuncId → Bool} {X : CallF} (hX : XOk C X) (hK114 : CmpOk X 114) (k : Nat) : Den.Told Try.prog C X 94 [.sl, (.st [.str, .str, .bool, (.int .i64), .sl])] [.bool] (fun a h => tree_parented.f k (a.1) (a.2) h) :=
  told_of fun a h q e => fn_of (c := tree_parented.body) (tree_parented.TS hX hK114 k) Try.func94 (by kernel_rfl) (hX.no 94 _ h (by decide))
    (by
      have e : need (tree_parented.an k) tree_parented.body 1 = [] := by kernel_rfl
      rw [e]; intro q hq; cases hq)
    ((tree_parented.eq k a h).symm.trans e)
/-! ### corbel/tree.Right$1 -/
noncomputable def tree_Right_1.f (k : Nat) (a0 : (ByteArray × ByteArray × Bool × Int × Sl)) (a1 : Option Addr) (h : H) : Option ((Bool) × H) :=
  (asS (ldc (newR h 58 5 [(Value.string a0.1), (Value.string a0.2.1), (Value.bool a0.2.2.1), (Value.int .i64 a0.2.2.2.1), (Value.slice a0.2.2.2.2.a a0.2.2.2.2.n a0.2.2.2.2.c)]) a1)).bind fun s1 =>
    (asSt [.str, .str, .bool, (.int .i64), .sl] (lda 5 (newR h 58 5 [(Value.string a0.1), (Value.string a0.2.1), (Value.bool a0.2.2.1), (Value.int .i64 a0.2.2.2.1), (Value.slice a0.2.2.2.2.a a0.2.2.2.2.n a0.2.2.2.2.c)]) (some ⟨h.next, 0, none⟩))).bind fun s2 =>
    (tree_parented.f k s1 (s2.1, s2.2.1, s2.2.2.1, s2.2.2.2.1, s2.2.2.2.2) (newR h 58 5 [(Value.string a0.1), (Value.string a0.2.1), (Value.bool a0.2.2.1), (Value.int .i64 a0.2.2.2.1), (Value.slice a0.2.2.2.2.a a0.2.2.2.2.n a0.2.2.2.2.c)])).bind fun q3 =>
    some (!q3.1, q3.2)
noncomputable def tree_Right_1.T (k : Nat) : Tbl := tblOf [⟨94, anyArgs, wr [.sl, (.st [.str, .str, .bool, (.int .i64), .sl])] [.bool] (fun a h => tree_parented.f k (a.1) (a.2) h)⟩]
noncomputable def tree_Right_1.an (k : Nat) (p : Nat) : Option Ann := none
noncomputable def tree_Right_1.body : Code := (Try.f93.body).getD .skip
set_option maxRecDepth 100000 in
theorem tree_Right_1.TS {C : FuncId → Bool} {X : CallF} (hX : XOk C X) (hK114 : CmpOk X 114) (k : Nat) : TblS Try.prog C X (tree_Right_1.T k) := by
  refine tblOf_sound ?_
  intro e he
  rcases List.mem_cons.1 he with rfl | he
  · exact wr_told (tree_parented.told hX hK114 k)
  exact absurd he List.not_mem_nil
set_option maxRecDepth 100000 in
theorem tree_Right_1.eq (k : Nat) (a : RT [(.st [.str, .str, .bool, (.int .i64), .sl]), .ptr]) (h : H) : (fun a h => tree_Right_1.f k (a.1) (a.2) h) a h = kfun Try.prog (tree_Right_1.T k) (tree_Right_1.an k) (RT [.bool] × H) Try.f93 (encL [(.st [.str, .str, .bool, (.int .i64), .sl]), .ptr] a) h (fun vs h' => (decL [.bool] vs).bind fun x => some (x, h')) := by kernel_rfl
set_option maxRecDepth 100000 in
theorem tree_Right_1.told {C : FuncId → Bool} {X : CallF} (hX : XOk C X) (hK114 : CmpOk X 114) (k : Nat) : Den.Told Try.prog C X 93 [(.st [.str, .str, .bool, (.int .i64), .sl]), .ptr] [.bool] (fun a h => tree_Right_1.f k (a.1) (a.2) h) :=
  told_of fun a h q e => fn_of (c := tree_Right_1.body) (tree_Right_1.TS hX hK114 k) Try.func93 (by kernel_rfl) (hX.no 93 _ h (by decide))
    (by
      have e : need (tree_Right_1.an k) tree_Right_1.body 1 = [] := by kernel_rfl
      rw [e]; intro q hq; cases hq)
    ((tree_Right_1.eq k a h).symm.trans e)
/-! ### slices.IndexFunc[[]corbel/api.Volume,corbel/api.Volume] -/
noncomputable def slices_IndexFunc_api_Volume_api_Volume_tree_Right_1.l0 (k : Nat) (n : Nat) : Sl → (Option Addr) → Int → Int → H → Option (((Int) ⊕ (Unit)) × H) :=
  Nat.rec (motive := fun _ => Sl → (Option Addr) → Int → Int → H → Option (((Int) ⊕ (Unit)) × H)) (fun _ _ _ _ _ => none) (fun _ ih x1 x2 x3 x4 h5 => cond (decide (x4 < x3))
      ((asP (ixs 5 x1.a x1.n x4)).bind fun p6 =>
    (asSt [.str, .str, .bool, (.int .i64), .sl] (lda 5 h5 p6)).bind fun s7 =>
    (tree_Right_1.f k (s7.1, s7.2.1, s7.2.2.1, s7.2.2.2.1, s7.2.2.2.2) x2 h5).bind fun q8 =>
    cond q8.1
      (some (Sum.inl x4, q8.2))
      (ih x1 (x2) x3 (wrapA .i64 (x4 + (1 : Int))) q8.2))
      (some (Sum.inr (), h5))) n
theorem slices_IndexFunc_api_Volume_api_Volume_tree_Right_1.l0_zero (k : Nat) (x1 : Sl) (x2 : Option Addr) (x3 : Int) (x4 : Int) (h5 : H) : slices_IndexFunc_api_Volume_api_Volume_tree_Right_1.l0 k 0 x1 x2 x3 x4 h5 = none := rfl
theorem slices_IndexFunc_api_Volume_api_Volume_tree_Right_1.l0_succ (k n : Nat) (x1 : Sl) (x2 : Option Addr) (x3 : Int) (x4 : Int) (h5 : H) : slices_IndexFunc_api_Volume_api_Volume_tree_Right_1.l0 k (n + 1) x1 x2 x3 x4 h5 = (cond (decide (x4 < x3))
      ((asP (ixs 5 x1.a x1.n x4)).bind fun p6 =>
    (asSt [.str, .str, .bool, (.int .i64), .sl] (lda 5 h5 p6)).bind fun s7 =>
    (tree_Right_1.f k (s7.1, s7.2.1, s7.2.2.1, s7.2.2.2.1, s7.2.2.2.2) x2 h5).bind fun q8 =>
    cond q8.1
      (some (Sum.inl x4, q8.2))
      (slices_IndexFunc_api_Volume_api_Volume_tree_Right_1.l0 k n x1 (x2) x3 (wrapA .i64 (x4 + (1 : Int))) q8.2))
      (some (Sum.inr (), h5))) := rfl
noncomputable def slices_IndexFunc_api_Volume_api_Volume_tree_Right_1.f (k : Nat) (a0 : Sl) (a1 : Option Addr) (h : H) : Option ((Int) × H) :=
  (slices_IndexFunc_api_Volume_api_Volume_tree_Right_1.l0 k k a0 (a1) (Int.ofNat a0.n) (0 : Int) h).bind fun w9 =>
    match w9.1 with
    | .inl r10 => some (r10, w9.2)
    | .inr o11 => some ((-1 : Int), w9.2)
noncomputable def slices_IndexFunc_api_Volume_api_Volume_tree_Right_1.T (k : Nat) : Tbl := tblOf [⟨93, anyArgs, wr [(.st [.str, .str, .bool, (.int .i64), .sl]), .ptr] [.bool] (fun a h => tree_Right_1.f k (a.1) (a.2) h)⟩]
noncomputable def slices_IndexFunc_api_Volume_api_Volume_tree_Right_1.an (k : Nat) (p : Nat) : Option Ann := cond (Nat.beq p 26) (some (.pass [] (lrun [(0, .sl), (1, (.fn 93 1)), (7, (.int .i64)), (8, (.int .i64))] (some [(4, (.int .i64))]) [] 0 (fun a h => slices_IndexFunc_api_Volume_api_Volume_tree_Right_1.l0 k k (a.1) (a.2.1) (a.2.2.1) (a.2.2.2) h))))
  (none)
noncomputable def slices_IndexFunc_api_Volume_api_Volume_tree_Right_1.body : Code := (Try.f111.body).getD .skip
noncomputable def slices_IndexFunc_api_Volume_api_Volume_tree_Right_1.c26 : Code := cat slices_IndexFunc_api_Volume_api_Volume_tree_Right_1.body [1, 0, 1, 0, 0]
set_option maxRecDepth 100000 in
theorem slices_IndexFunc_api_Volume_api_Volume_tree_Right_1.TS {C : FuncId → Bool} {X : CallF} (hX : XOk C X) (hK114 : CmpOk X 114) (k : Nat) : TblS Try.prog C X (slices_IndexFunc_api_Volume_api_Volume_tree_Right_1.T k) := by
  refine tblOf_sound ?_
  intro e he
  rcases List.mem_cons.1 he with rfl | he
  · exact wr_told (tree_Right_1.told hX hK114 k)
  exact absurd he List.not_mem_nil
set_option maxRecDepth 100000 in
theorem slices_IndexFunc_api_Volume_api_Volume_tree_Right_1.l0_pass {C : FuncId → Bool} {X : CallF} (hX : XOk C X) (hK114 : CmpOk X 114) (k n : Nat) : PassS Try.prog C X 19 (.loop slices_IndexFunc_api_Volume_api_Volume_tree_Right_1.c26) (lrun [(0, .sl), (1, (.fn 93 1)), (7, (.int .i64)), (8, (.int .i64))] (some [(4, (.int .i64))]) [] 0 (fun a h => slices_IndexFunc_api_Volume_api_Volume_tree_Right_1.l0 k n (a.1) (a.2.1) (a.2.2.1) (a.2.2.2) h)) :=
  loop_pass (ins := [(0, .sl), (1, (.fn 93 1)), (7, (.int .i64)), (8, (.int .i64))]) (rets := (some [(4, (.int .i64))])) (outs := []) (id := 0) (tbl := slices_IndexFunc_api_Volume_api_Volume_tree_Right_1.T k) (an := slices_IndexFunc_api_Volume_api_Volume_tree_Right_1.an k) (pb := 52) (slices_IndexFunc_api_Volume_api_Volume_tree_Right_1.TS hX hK114 k) (fun n => (fun a h => slices_IndexFunc_api_Volume_api_Volume_tree_Right_1.l0 k n (a.1) (a.2.1) (a.2.2.1) (a.2.2.2) h)) (fun a h => rfl) (fun n a h => by kernel_rfl)
    (by
      have e : need (slices_IndexFunc_api_Volume_api_Volume_tree_Right_1.an k) slices_IndexFunc_api_Volume_api_Volume_tree_Right_1.c26 52 = [] := by kernel_rfl
      rw [e]; intro q hq; cases hq) n
set_option maxRecDepth 100000 in
theorem slices_IndexFunc_api_Volume_api_Volume_tree_Right_1.eq (k : Nat) (a : RT [.sl, (.fn 93 1)]) (h : H) : (fun a h => slices_IndexFunc_api_Volume_api_Volume_tree_Right_1.f k (a.1) (a.2) h) a h = kfun Try.prog (slices_IndexFunc_api_Volume_api_Volume_tree_Right_1.T k) (slices_IndexFunc_api_Volume_api_Volume_tree_Right_1.an k) (RT [(.int .i64)] × H) Try.f111 (encL [.sl, (.fn 93 1)] a) h (fun vs h' => (decL [(.int .i64)] vs).bind fun x => some (x, h')) := by kernel_rfl
set_option maxRecDepth 100000 in
theorem slices_IndexFunc_api_Volume_api_Volume_tree_Right_1.told {C : FuncId → Bool} {X : CallF} (hX : XOk C X) (hK114 : CmpOk X 114) (k : Nat) : Den.Told Try.prog C X 111 [.sl, (.fn 93 1)] [(.int .i64)] (fun a h => slices_IndexFunc_api_Volume_api_Volume_tree_Right_1.f k (a.1) (a.2) h) :=
  told_of fun a h q e => fn_of (c := slices_IndexFunc_api_Volume_api_Volume_tree_Right_1.body) (slices_IndexFunc_api_Volume_api_Volume_tree_Right_1.TS hX hK114 k) Try.func111 (by kernel_rfl) (hX.no 111 _ h (by decide))
    (by
      have e : need (slices_IndexFunc_api_Volume_api_Volume_tree_Right_1.an k) slices_IndexFunc_api_Volume_api_Volume_tree_Right_1.body 1 = [(Code.loop slices_IndexFunc_api_Volume_api_Volume_tree_Right_1.c26, lrun [(0, .sl), (1, (.fn 93 1)), (7, (.int .i64)), (8, (.int .i64))] (some [(4, (.int .i64))]) [] 0 (fun a h => slices_IndexFunc_api_Volume_api_Volume_tree_Right_1.l0 k k (a.1) (a.2.1) (a.2.2.1) (a.2.2.2) h))] := by kernel_rfl
      rw [e]; intro q hq
      rcases List.mem_cons.1 hq with rfl | hq
      · exact slices_IndexFunc_api_Volume_api_Volume_tree_Right_1.l0_pass hX hK114 k k
      cases hq)
    ((slices_IndexFunc_api_Volume_api_Volume_tree_Right_1.eq k a h).symm.trans e)
/-! ### slices.ContainsFunc[[]corbel/api.Volume,corbel/api.Volume] -/
noncomputable def slices_ContainsFunc_api_Volume_api_Volume_tree_Right_1.f (k : Nat) (a0 : Sl) (a1 : Option Addr) (h : H) : Option ((Bool) × H) :=
  (slices_IndexFunc_api_Volume_api_Volume_tree_Right_1.f k a0 (a1) h).bind fun q1 =>
    some (decide (q1.1 ≥ (0 : Int)), q1.2)
noncomputable def slices_ContainsFunc_api_Volume_api_Volume_tree_Right_1.T (k : Nat) : Tbl := tblOf [⟨111, chkF [(1, 93)], wr [.sl, (.fn 93 1)] [(.int .i64)] (fun a h => slices_IndexFunc_api_Volume_api_Volume_tree_Right_1.f k (a.1) (a.2) h)⟩]
noncomputable def slices_ContainsFunc_api_Volume_api_Volume_tree_Right_1.an (k : Nat) (p : Nat) : Option Ann := none
noncomputable def slices_ContainsFunc_api_Volume_api_Volume_tree_Right_1.body : Code := (Try.f89.body).getD .skip
set_option maxRecDepth 100000 in
theorem slices_ContainsFunc_api_Volume_api_Volume_tree_Right_1.TS {C : FuncId → Bool} {X : CallF} (hX : XOk C X) (hK114 : CmpOk X 114) (k : Nat) : TblS Try.prog C X (slices_ContainsFunc_api_Volume_api_Volume_tree_Right_1.T k) := by
  refine tblOf_sound ?_
  intro e he
  rcases List.mem_cons.1 he with rfl | he
  · exact wr_told (slices_IndexFunc_api_Volume_api_Volume_tree_Right_1.told hX hK114 k)
  exact absurd he List.not_mem_nil
set_option maxRecDepth 100000 in
theorem slices_ContainsFunc_api_Volume_api_Volume_tree_Right_1.eq (k : Nat) (a : RT [.sl, (.fn 93 1)]) (h : H) : (fun a h => slices_ContainsFunc_api_Volume_api_Volume_tree_Right_1.f k (a.1) (a.2) h) a h = kfun Try.prog (slices_ContainsFunc_api_Volume_api_Volume_tree_Right_1.T k) (slices_ContainsFunc_api_Volume_api_Volume_tree_Right_1.an k) (RT [.bool] × H) Try.f89 (encL [.sl, (.fn 93 1)] a) h (fun vs h' => (decL [.bool] vs).bind fun x => some (x, h')) := by kernel_rfl
set_option maxRecDepth 100000 in
theorem slices_ContainsFunc_api_Volume_api_Volume_tree_Right_1.told {C : FuncId → Bool} {X : CallF} (hX : XOk C X) (hK114 : CmpOk X 114) (k : Nat) : Den.Told Try.prog C X 89 [.sl, (.fn 93 1)] [.bool] (fun a h => slices_ContainsFunc_api_Volume_api_Volume_tree_Right_1.f k (a.1) (a.2) h) :=
  told_of fun a h q e => fn_of (c := slices_ContainsFunc_api_Volume_api_Volume_tree_Right_1.body) (slices_ContainsFunc_api_Volume_api_Volume_tree_Right_1.TS hX hK114 k) Try.func89 (by kernel_rfl) (hX.no 89 _ h (by decide))
    (by
      have e : need (slices_ContainsFunc_api_Volume_api_Volume_tree_Right_1.an k) slices_ContainsFunc_api_Volume_api_Volume_tree_Right_1.body 1 = [] := by kernel_rfl
      rw [e]; intro q hq; cases hq)
    ((slices_ContainsFunc_api_Volume_api_Volume_tree_Right_1.eq k a h).symm.trans e)
/-! ### corbel/tree.Right -/
noncomputable def tree_Right.l0 (k : Nat) (n : Nat) : (Option Addr) → Sl → Int → Int → H → Option (((Bool) ⊕ (Unit)) × H) :=
  Nat.rec (motive := fun _ => (Option Addr) → Sl → Int → Int → H → Option (((Bool) ⊕ (Unit)) × H)) (fun _ _ _ _ _ => none) (fun _ ih x2 x3 x4 x5 h6 => cond (decide (x5 < x4))
      ((asP (ixs 5 x3.a x3.n x5)).bind fun p7 =>
    (asSt [.str, .str, .bool, (.int .i64), .sl] (lda 5 h6 p7)).bind fun s8 =>
    (stv 5 (newR h6 58 5 [(Value.string (⟨#[]⟩ : ByteArray)), (Value.string (⟨#[]⟩ : ByteArray)), (Value.bool false), (Value.int .i64 (0 : Int)), (Value.slice none 0 0)]) (some ⟨h6.next, 0, none⟩) [(Value.string s8.1), (Value.string s8.2.1), (Value.bool s8.2.2.1), (Value.int .i64 s8.2.2.2.1), (Value.slice s8.2.2.2.2.a s8.2.2.2.2.n s8.2.2.2.2.c)]).bind fun q9 =>
    (cond (decide (x5 > (0 : Int))) ((asS (ldc q9.2 x2)).bind fun s10 =>
    (asP (ixs 5 s10.a s10.n (wrapA .i64 (x5 - (1 : Int))))).bind fun p11 =>
    (asP (fadd 0 p11)).bind fun p12 =>
    (asT (ldc q9.2 p12)).bind fun s13 =>
    (asT (ldc q9.2 (some ⟨h6.next, 0, none⟩))).bind fun s14 =>
    some (!(Op.bytesLess s13.toList s14.toList), q9.2, [], []))
      (some (false, q9.2, [], [])) : Option (Bool × H × LEs × EFs)).bind fun g15 =>
    (cond g15.1 (some (true, g15.2.1, [], []))
      ((asT (ldc g15.2.1 (some ⟨h6.next, 0, none⟩))).bind fun s16 =>
    (tree_IsName.f k s16 g15.2.1).bind fun q17 =>
    some (!q17.1, q17.2, [], [])) : Option (Bool × H × LEs × EFs)).bind fun g18 =>
    (cond g18.1 (some (true, g18.2.1, [], []))
      ((asI .i64 (ldc g18.2.1 (some ⟨h6.next, 3, none⟩))).bind fun n19 =>
    (asS (ldc g18.2.1 (some ⟨h6.next, 4, none⟩))).bind fun s20 =>
    (extent_Right.f k n19 s20 g18.2.1).bind fun q21 =>
    some (!q21.1, q21.2, [], [])) : Option (Bool × H × LEs × EFs)).bind fun g22 =>
    cond g22.1
      (some (Sum.inl false, g22.2.1))
      (ih x2 x3 x4 (wrapA .i64 (x5 + (1 : Int))) g22.2.1))
      (some (Sum.inr (), h6))) n
theorem tree_Right.l0_zero (k : Nat) (x2 : Option Addr) (x3 : Sl) (x4 : Int) (x5 : Int) (h6 : H) : tree_Right.l0 k 0 x2 x3 x4 x5 h6 = none := rfl
theorem tree_Right.l0_succ (k n : Nat) (x2 : Option Addr) (x3 : Sl) (x4 : Int) (x5 : Int) (h6 : H) : tree_Right.l0 k (n + 1) x2 x3 x4 x5 h6 = (cond (decide (x5 < x4))
      ((asP (ixs 5 x3.a x3.n x5)).bind fun p7 =>
    (asSt [.str, .str, .bool, (.int .i64), .sl] (lda 5 h6 p7)).bind fun s8 =>
    (stv 5 (newR h6 58 5 [(Value.string (⟨#[]⟩ : ByteArray)), (Value.string (⟨#[]⟩ : ByteArray)), (Value.bool false), (Value.int .i64 (0 : Int)), (Value.slice none 0 0)]) (some ⟨h6.next, 0, none⟩) [(Value.string s8.1), (Value.string s8.2.1), (Value.bool s8.2.2.1), (Value.int .i64 s8.2.2.2.1), (Value.slice s8.2.2.2.2.a s8.2.2.2.2.n s8.2.2.2.2.c)]).bind fun q9 =>
    (cond (decide (x5 > (0 : Int))) ((asS (ldc q9.2 x2)).bind fun s10 =>
    (asP (ixs 5 s10.a s10.n (wrapA .i64 (x5 - (1 : Int))))).bind fun p11 =>
    (asP (fadd 0 p11)).bind fun p12 =>
    (asT (ldc q9.2 p12)).bind fun s13 =>
    (asT (ldc q9.2 (some ⟨h6.next, 0, none⟩))).bind fun s14 =>
    some (!(Op.bytesLess s13.toList s14.toList), q9.2, [], []))
      (some (false, q9.2, [], [])) : Option (Bool × H × LEs × EFs)).bind fun g15 =>
    (cond g15.1 (some (true, g15.2.1, [], []))
      ((asT (ldc g15.2.1 (some ⟨h6.next, 0, none⟩))).bind fun s16 =>
    (tree_IsName.f k s16 g15.2.1).bind fun q17 =>
    some (!q17.1, q17.2, [], [])) : Option (Bool × H × LEs × EFs)).bind fun g18 =>
    (cond g18.1 (some (true, g18.2.1, [], []))
      ((asI .i64 (ldc g18.2.1 (some ⟨h6.next, 3, none⟩))).bind fun n19 =>
    (asS (ldc g18.2.1 (some ⟨h6.next, 4, none⟩))).bind fun s20 =>
    (extent_Right.f k n19 s20 g18.2.1).bind fun q21 =>
    some (!q21.1, q21.2, [], [])) : Option (Bool × H × LEs × EFs)).bind fun g22 =>
    cond g22.1
      (some (Sum.inl false, g22.2.1))
      (tree_Right.l0 k n x2 x3 x4 (wrapA .i64 (x5 + (1 : Int))) g22.2.1))
      (some (Sum.inr (), h6))) := rfl
noncomputable def tree_Right.f (k : Nat) (a0 : Sl) (h : H) : Option ((Bool) × H) :=
  (asS (ldc (newR h 59 1 [(Value.slice a0.a a0.n a0.c)]) (some ⟨h.next, 0, none⟩))).bind fun s1 =>
    (tree_Right.l0 k k (some ⟨h.next, 0, none⟩) s1 (Int.ofNat s1.n) (0 : Int) (newR h 59 1 [(Value.slice a0.a a0.n a0.c)])).bind fun w23 =>
    match w23.1 with
    | .inl r24 => some (r24, w23.2)
    | .inr o25 => (asS (ldc w23.2 (some ⟨h.next, 0, none⟩))).bind fun s26 =>
    (cond (decide ((Int.ofNat s26.n) ≤ (12 : Int))) ((asS (ldc w23.2 (some ⟨h.next, 0, none⟩))).bind fun s27 =>
    (slices_ContainsFunc_api_Volume_api_Volume_tree_Right_1.f k s27 ((some ⟨h.next, 0, none⟩)) w23.2).bind fun q28 =>
    some (!q28.1, q28.2))
      (some (false, w23.2))).bind fun g29 =>
    some (g29.1, g29.2)
noncomputable def tree_Right.T (k : Nat) : Tbl := tblOf [⟨65, anyArgs, wr [.str] [.bool] (fun a h => tree_IsName.f k a h)⟩,
  ⟨30, anyArgs, wr [(.int .i64), .sl] [.bool] (fun a h => extent_Right.f k (a.1) (a.2) h)⟩,
  ⟨89, chkF [(1, 93)], wr [.sl, (.fn 93 1)] [.bool] (fun a h => slices_ContainsFunc_api_Volume_api_Volume_tree_Right_1.f k (a.1) (a.2) h)⟩]
noncomputable def tree_Right.an (k : Nat) (p : Nat) : Option Ann := cond (Nat.beq p 26) (some (.pass [1] (lrun [(1, .ptr), (5, .sl), (6, (.int .i64)), (7, (.int .i64))] (some [(2, .bool)]) [] 0 (fun a h => tree_Right.l0 k k (a.1) (a.2.1) (a.2.2.1) (a.2.2.2) h))))
  (none)
noncomputable def tree_Right.body : Code := (Try.f56.body).getD .skip
noncomputable def tree_Right.c26 : Code := cat tree_Right.body [1, 0, 1, 0, 0]
set_option maxRecDepth 100000 in
theorem tree_Right.TS {C : FuncId → Bool} {X : CallF} (hX : XOk C X) (hK114 : CmpOk X 114) (k : Nat) : TblS Try.prog C X (tree_Right.T k) := by
  refine tblOf_sound ?_
  intro e he
  rcases List.mem_cons.1 he with rfl | he
  · exact wr_told (tree_IsName.told hX k)
  rcases List.mem_cons.1 he with rfl | he
  · exact wr_told (extent_Right.told hX k)
  rcases List.mem_cons.1 he with rfl | he
  · exact wr_told (slices_ContainsFunc_api_Volume_api_Volume_tree_Right_1.told hX hK114 k)
  exact absurd he List.not_mem_nil
set_option maxRecDepth 100000 in
theorem tree_Right.l0_pass {C : FuncId → Bool} {X : CallF} (hX : XOk C X) (hK114 : CmpOk X 114) (k n : Nat) : PassS Try.prog C X 49 (.loop tree_Right.c26) (lrun [(1, .ptr), (5, .sl), (6, (.int .i64)), (7, (.int .i64))] (some [(2, .bool)]) [] 0 (fun a h => tree_Right.l0 k n (a.1) (a.2.1) (a.2.2.1) (a.2.2.2) h)) :=
  loop_pass (ins := [(1, .ptr), (5, .sl), (6, (.int .i64)), (7, (.int .i64))]) (rets := (some [(2, .bool)])) (outs := []) (id := 0) (tbl := tree_Right.T k) (an := tree_Right.an k) (pb := 52) (tree_Right.TS hX hK114 k) (fun n => (fun a h => tree_Right.l0 k n (a.1) (a.2.1) (a.2.2.1) (a.2.2.2) h)) (fun a h => rfl) (fun n a h => by kernel_rfl)
    (by
      have e : need (tree_Right.an k) tree_Right.c26 52 = [] := by kernel_rfl
      rw [e]; intro q hq; cases hq) n
set_option maxRecDepth 100000 in
theorem tree_Right.eq (k : Nat) (a : RT [.sl]) (h : H) : (fun a h => tree_Right.f k a h) a h = kfun Try.prog (tree_Right.T k) (tree_Right.an k) (RT [.bool] × H) Try.f56 (encL [.sl] a) h (fun vs h' => (decL [.bool] vs).bind fun x => some (x, h')) := by kernel_rfl
set_option maxRecDepth 100000 in
theorem tree_Right.told {C : FuncId → Bool} {X : CallF} (hX : XOk C X) (hK114 : CmpOk X 114) (k : Nat) : Den.Told Try.prog C X 56 [.sl] [.bool] (fun a h => tree_Right.f k a h) :=
  told_of fun a h q e => fn_of (c := tree_Right.body) (tree_Right.TS hX hK114 k) Try.func56 (by kernel_rfl) (hX.no 56 _ h (by decide))
    (by
      have e : need (tree_Right.an k) tree_Right.body 1 = [(Code.loop tree_Right.c26, lrun [(1, .ptr), (5, .sl), (6, (.int .i64)), (7, (.int .i64))] (some [(2, .bool)]) [] 0 (fun a h => tree_Right.l0 k k (a.1) (a.2.1) (a.2.2.1) (a.2.2.2) h))] := by kernel_rfl
      rw [e]; intro q hq
      rcases List.mem_cons.1 hq with rfl | hq
      · exact tree_Right.l0_pass hX hK114 k k
      cases hq)
    ((tree_Right.eq k a h).symm.trans e)
/-! ### corbel/meta.Lay -/
/-! ### (*corbel/meta.reader).volume -/
/-! ### corbel/meta.Read -/
/-! ### corbel/corbelref7.SameInts -/
noncomputable def corbelref7_SameInts.l0 (k : Nat) (n : Nat) : Sl → Sl → Int → H → Option (((Bool) ⊕ (Unit)) × H) :=
  Nat.rec (motive := fun _ => Sl → Sl → Int → H → Option (((Bool) ⊕ (Unit)) × H)) (fun _ _ _ _ => none) (fun _ ih x1 x2 x3 h4 => cond (decide (x3 < (Int.ofNat x1.n)))
      ((asP (ixs 1 x1.a x1.n x3)).bind fun p5 =>
    (asI .i64 (ldc h4 p5)).bind fun n6 =>
    (asP (ixs 1 x2.a x2.n x3)).bind fun p7 =>
    (asI .i64 (ldc h4 p7)).bind fun n8 =>
    cond (n6 != n8)
      (some (Sum.inl false, h4))
      (ih x1 x2 (wrapA .i64 (x3 + (1 : Int))) h4))
      (some (Sum.inr (), h4))) n
theorem corbelref7_SameInts.l0_zero (k : Nat) (x1 : Sl) (x2 : Sl) (x3 : Int) (h4 : H) : corbelref7_SameInts.l0 k 0 x1 x2 x3 h4 = none := rfl
theorem corbelref7_SameInts.l0_succ (k n : Nat) (x1 : Sl) (x2 : Sl) (x3 : Int) (h4 : H) : corbelref7_SameInts.l0 k (n + 1) x1 x2 x3 h4 = (cond (decide (x3 < (Int.ofNat x1.n)))
      ((asP (ixs 1 x1.a x1.n x3)).bind fun p5 =>
    (asI .i64 (ldc h4 p5)).bind fun n6 =>
    (asP (ixs 1 x2.a x2.n x3)).bind fun p7 =>
    (asI .i64 (ldc h4 p7)).bind fun n8 =>
    cond (n6 != n8)
      (some (Sum.inl false, h4))
      (corbelref7_SameInts.l0 k n x1 x2 (wrapA .i64 (x3 + (1 : Int))) h4))
      (some (Sum.inr (), h4))) := rfl
noncomputable def corbelref7_SameInts.f (k : Nat) (a0 : Sl) (a1 : Sl) (h : H) : Option ((Bool) × H) :=
  cond ((Int.ofNat a0.n) != (Int.ofNat a1.n))
      (some (false, h))
      ((corbelref7_SameInts.l0 k k a0 a1 (0 : Int) h).bind fun w9 =>
    match w9.1 with
    | .inl r10 => some (r10, w9.2)
    | .inr o11 => some (true, w9.2))
noncomputable def corbelref7_SameInts.T (k : Nat) : Tbl := tblOf []
noncomputable def corbelref7_SameInts.an (k : Nat) (p : Nat) : Option Ann := cond (Nat.beq p 58) (some (.pass [] (lrun [(0, .sl), (1, .sl), (5, (.int .i64))] (some [(4, .bool)]) [] 0 (fun a h => corbelref7_SameInts.l0 k k (a.1) (a.2.1) (a.2.2) h))))
  (none)
noncomputable def corbelref7_SameInts.body : Code := (Try.f27.body).getD .skip
noncomputable def corbelref7_SameInts.c58 : Code := cat corbelref7_SameInts.body [1, 1, 0, 1, 0, 0]
set_option maxRecDepth 100000 in
theorem corbelref7_SameInts.TS {C : FuncId → Bool} {X : CallF} (hX : XOk C X) (k : Nat) : TblS Try.prog C X (corbelref7_SameInts.T k) := by
  refine tblOf_sound ?_
  intro e he
  exact absurd he List.not_mem_nil
set_option maxRecDepth 100000 in
theorem corbelref7_SameInts.l0_pass {C : FuncId → Bool} {X : CallF} (hX : XOk C X) (k n : Nat) : PassS Try.prog C X 26 (.loop corbelref7_SameInts.c58) (lrun [(0, .sl), (1, .sl), (5, (.int .i64))] (some [(4, .bool)]) [] 0 (fun a h => corbelref7_SameInts.l0 k n (a.1) (a.2.1) (a.2.2) h)) :=
  loop_pass (ins := [(0, .sl), (1, .sl), (5, (.int .i64))]) (rets := (some [(4, .bool)])) (outs := []) (id := 0) (tbl := corbelref7_SameInts.T k) (an := corbelref7_SameInts.an k) (pb := 116) (corbelref7_SameInts.TS hX k) (fun n => (fun a h => corbelref7_SameInts.l0 k n (a.1) (a.2.1) (a.2.2) h)) (fun a h => rfl) (fun n a h => by kernel_rfl)
    (by
      have e : need (corbelref7_SameInts.an k) corbelref7_SameInts.c58 116 = [] := by kernel_rfl
      rw [e]; intro q hq; cases hq) n
set_option maxRecDepth 100000 in
theorem corbelref7_SameInts.eq (k : Nat) (a : RT [.sl, .sl]) (h : H) : (fun a h => corbelref7_SameInts.f k (a.1) (a.2) h) a h = kfun Try.prog (corbelref7_SameInts.T k) (corbelref7_SameInts.an k) (RT [.bool] × H) Try.f27 (encL [.sl, .sl] a) h (fun vs h' => (decL [.bool] vs).bind fun x => some (x, h')) := by kernel_rfl
set_option maxRecDepth 100000 in
theorem corbelref7_SameInts.told {C : FuncId → Bool} {X : CallF} (hX : XOk C X) (k : Nat) : Den.Told Try.prog C X 27 [.sl, .sl] [.bool] (fun a h => corbelref7_SameInts.f k (a.1) (a.2) h) :=
  told_of fun a h q e => fn_of (c := corbelref7_SameInts.body) (corbelref7_SameInts.TS hX k) Try.func27 (by kernel_rfl) (hX.no 27 _ h (by decide))
    (by
      have e : need (corbelref7_SameInts.an k) corbelref7_SameInts.body 1 = [(Code.loop corbelref7_SameInts.c58, lrun [(0, .sl), (1, .sl), (5, (.int .i64))] (some [(4, .bool)]) [] 0 (fun a h => corbelref7_SameInts.l0 k k (a.1) (a.2.1) (a.2.2) h))] := by kernel_rfl
      rw [e]; intro q hq
      rcases List.mem_cons.1 hq with rfl | hq
      · exact corbelref7_SameInts.l0_pass hX k k
      cases hq)
    ((corbelref7_SameInts.eq k a h).symm.trans e)
/-! ### corbel/corbelref16.SameVolume -/
noncomputable def corbelref16_SameVolume.f (k : Nat) (a0 : (ByteArray × ByteArray × Bool × Int × Sl)) (a1 : (ByteArray × ByteArray × Bool × Int × Sl)) (h : H) : Option ((Bool) × H) :=
  (asT (ldc (newR (newR h 58 5 [(Value.string a0.1), (Value.string a0.2.1), (Value.bool a0.2.2.1), (Value.int .i64 a0.2.2.2.1), (Value.slice a0.2.2.2.2.a a0.2.2.2.2.n a0.2.2.2.2.c)]) 58 5 [(Value.string a1.1), (Value.string a1.2.1), (Value.bool a1.2.2.1), (Value.int .i64 a1.2.2.2.1), (Value.slice a1.2.2.2.2.a a1.2.2.2.2.n a1.2.2.2.2.c)]) (some ⟨h.next, 0, none⟩))).bind fun s1 =>
    (asT (ldc (newR (newR h 58 5 [(Value.string a0.1), (Value.string a0.2.1), (Value.bool a0.2.2.1), (Value.int .i64 a0.2.2.2.1), (Value.slice a0.2.2.2.2.a a0.2.2.2.2.n a0.2.2.2.2.c)]) 58 5 [(Value.string a1.1), (Value.string a1.2.1), (Value.bool a1.2.2.1), (Value.int .i64 a1.2.2.2.1), (Value.slice a1.2.2.2.2.a a1.2.2.2.2.n a1.2.2.2.2.c)]) (some ⟨(newR h 58 5 [(Value.string a0.1), (Value.string a0.2.1), (Value.bool a0.2.2.1), (Value.int .i64 a0.2.2.2.1), (Value.slice a0.2.2.2.2.a a0.2.2.2.2.n a0.2.2.2.2.c)]).next, 0, none⟩))).bind fun s2 =>
    (cond (s1.toList == s2.toList) ((asT (ldc (newR (newR h 58 5 [(Value.string a0.1), (Value.string a0.2.1), (Value.bool a0.2.2.1), (Value.int .i64 a0.2.2.2.1), (Value.slice a0.2.2.2.2.a a0.2.2.2.2.n a0.2.2.2.2.c)]) 58 5 [(Value.string a1.1), (Value.string a1.2.1), (Value.bool a1.2.2.1), (Value.int .i64 a1.2.2.2.1), (Value.slice a1.2.2.2.2.a a1.2.2.2.2.n a1.2.2.2.2.c)]) (some ⟨h.next, 1, none⟩))).bind fun s3 =>
    (asT (ldc (newR (newR h 58 5 [(Value.string a0.1), (Value.string a0.2.1), (Value.bool a0.2.2.1), (Value.int .i64 a0.2.2.2.1), (Value.slice a0.2.2.2.2.a a0.2.2.2.2.n a0.2.2.2.2.c)]) 58 5 [(Value.string a1.1), (Value.string a1.2.1), (Value.bool a1.2.2.1), (Value.int .i64 a1.2.2.2.1), (Value.slice a1.2.2.2.2.a a1.2.2.2.2.n a1.2.2.2.2.c)]) (some ⟨(newR h 58 5 [(Value.string a0.1), (Value.string a0.2.1), (Value.bool a0.2.2.1), (Value.int .i64 a0.2.2.2.1), (Value.slice a0.2.2.2.2.a a0.2.2.2.2.n a0.2.2.2.2.c)]).next, 1, none⟩))).bind fun s4 =>
    some (s3.toList == s4.toList, (newR (newR h 58 5 [(Value.string a0.1), (Value.string a0.2.1), (Value.bool a0.2.2.1), (Value.int .i64 a0.2.2.2.1), (Value.slice a0.2.2.2.2.a a0.2.2.2.2.n a0.2.2.2.2.c)]) 58 5 [(Value.string a1.1), (Value.string a1.2.1), (Value.bool a1.2.2.1), (Value.int .i64 a1.2.2.2.1), (Value.slice a1.2.2.2.2.a a1.2.2.2.2.n a1.2.2.2.2.c)])))
      (some (false, (newR (newR h 58 5 [(Value.string a0.1), (Value.string a0.2.1), (Value.bool a0.2.2.1), (Value.int .i64 a0.2.2.2.1), (Value.slice a0.2.2.2.2.a a0.2.2.2.2.n a0.2.2.2.2.c)]) 58 5 [(Value.string a1.1), (Value.string a1.2.1), (Value.bool a1.2.2.1), (Value.int .i64 a1.2.2.2.1), (Value.slice a1.2.2.2.2.a a1.2.2.2.2.n a1.2.2.2.2.c)])))).bind fun g5 =>
    (cond g5.1 ((asB (ldc g5.2 (some ⟨h.next, 2, none⟩))).bind fun b6 =>
    (asB (ldc g5.2 (some ⟨(newR h 58 5 [(Value.string a0.1), (Value.string a0.2.1), (Value.bool a0.2.2.1), (Value.int .i64 a0.2.2.2.1), (Value.slice a0.2.2.2.2.a a0.2.2.2.2.n a0.2.2.2.2.c)]).next, 2, none⟩))).bind fun b7 =>
    some (b6 == b7, g5.2))
      (some (false, g5.2))).bind fun g8 =>
    (cond g8.1 ((asI .i64 (ldc g8.2 (some ⟨h.next, 3, none⟩))).bind fun n9 =>
    (asI .i64 (ldc g8.2 (some ⟨(newR h 58 5 [(Value.string a0.1), (Value.string a0.2.1), (Value.bool a0.2.2.1), (Value.int .i64 a0.2.2.2.1), (Value.slice a0.2.2.2.2.a a0.2.2.2.2.n a0.2.2.2.2.c)]).next, 3, none⟩))).bind fun n10 =>
    some (n9 == n10, g8.2))
      (some (false, g8.2))).bind fun g11 =>
    (cond g11.1 ((asS (ldc g11.2 (some ⟨h.next, 4, none⟩))).bind fun s12 =>
    (asS (ldc g11.2 (some ⟨(newR h 58 5 [(Value.string a0.1), (Value.string a0.2.1), (Value.bool a0.2.2.1), (Value.int .i64 a0.2.2.2.1), (Value.slice a0.2.2.2.2.a a0.2.2.2.2.n a0.2.2.2.2.c)]).next, 4, none⟩))).bind fun s13 =>
    (corbelref7_SameInts.f k s12 s13 g11.2).bind fun q14 =>
    some (q14.1, q14.2))
      (some (false, g11.2))).bind fun g15 =>
    some (g15.1, g15.2)
noncomputable def corbelref16_SameVolume.T (k : Nat) : Tbl := tblOf [⟨27, anyArgs, wr [.sl, .sl] [.bool] (fun a h => corbelref7_SameInts.f k (a.1) (a.2) h)⟩]
noncomputable def corbelref16_SameVolume.an (k : Nat) (p : Nat) : Option Ann := none
noncomputable def corbelref16_SameVolume.body : Code := (Try.f58.body).getD .skip
set_option maxRecDepth 100000 in
theorem corbelref16_SameVolume.TS {C : FuncId → Bool} {X : CallF} (hX : XOk C X) (k : Nat) : TblS Try.prog C X (corbelref16_SameVolume.T k) := by
  refine tblOf_sound ?_
  intro e he
  rcases List.mem_cons.1 he with rfl | he
  · exact wr_told (corbelref7_SameInts.told hX k)
  exact absurd he List.not_mem_nil
set_option maxRecDepth 100000 in
theorem corbelref16_SameVolume.eq (k : Nat) (a : RT [(.st [.str, .str, .bool, (.int .i64), .sl]), (.st [.str, .str, .bool, (.int .i64), .sl])]) (h : H) : (fun a h => corbelref16_SameVolume.f k (a.1) (a.2) h) a h = kfun Try.prog (corbelref16_SameVolume.T k) (corbelref16_SameVolume.an k) (RT [.bool] × H) Try.f58 (encL [(.st [.str, .str, .bool, (.int .i64), .sl]), (.st [.str, .str, .bool, (.int .i64), .sl])] a) h (fun vs h' => (decL [.bool] vs).bind fun x => some (x, h')) := by kernel_rfl
set_option maxRecDepth 100000 in
theorem corbelref16_SameVolume.told {C : FuncId → Bool} {X : CallF} (hX : XOk C X) (k : Nat) : Den.Told Try.prog C X 58 [(.st [.str, .str, .bool, (.int .i64), .sl]), (.st [.str, .str, .bool, (.int .i64), .sl])] [.bool] (fun a h => corbelref16_SameVolume.f k (a.1) (a.2) h) :=
  told_of fun a h q e => fn_of (c := corbelref16_SameVolume.body) (corbelref16_SameVolume.TS hX k) Try.func58 (by kernel_rfl) (hX.no 58 _ h (by decide))
    (by
      have e : need (corbelref16_SameVolume.an k) corbelref16_SameVolume.body 1 = [] := by kernel_rfl
      rw [e]; intro q hq; cases hq)
    ((corbelref16_SameVolume.eq k a h).symm.trans e)
/-! ### corbel/corbelref16.SameTree -/
noncomputable def corbelref16_SameTree.l0 (k : Nat) (n : Nat) : Sl → Sl → Int → H → Option (((Bool) ⊕ (Unit)) × H) :=
  Nat.rec (motive := fun _ => Sl → Sl → Int → H → Option (((Bool) ⊕ (Unit)) × H)) (fun _ _ _ _ => none) (fun _ ih x1 x2 x3 h4 => cond (decide (x3 < (Int.ofNat x1.n)))
      ((asP (ixs 5 x1.a x1.n x3)).bind fun p5 =>
    (asSt [.str, .str, .bool, (.int .i64), .sl] (lda 5 h4 p5)).bind fun s6 =>
    (asP (ixs 5 x2.a x2.n x3)).bind fun p7 =>
    (asSt [.str, .str, .bool, (.int .i64), .sl] (lda 5 h4 p7)).bind fun s8 =>
    (corbelref16_SameVolume.f k (s6.1, s6.2.1, s6.2.2.1, s6.2.2.2.1, s6.2.2.2.2) (s8.1, s8.2.1, s8.2.2.1, s8.2.2.2.1, s8.2.2.2.2) h4).bind fun q9 =>
    cond (!q9.1)
      (some (Sum.inl false, q9.2))
      (ih x1 x2 (wrapA .i64 (x3 + (1 : Int))) q9.2))
      (some (Sum.inr (), h4))) n
theorem corbelref16_SameTree.l0_zero (k : Nat) (x1 : Sl) (x2 : Sl) (x3 : Int) (h4 : H) : corbelref16_SameTree.l0 k 0 x1 x2 x3 h4 = none := rfl
theorem corbelref16_SameTree.l0_succ (k n : Nat) (x1 : Sl) (x2 : Sl) (x3 : Int) (h4 : H) : corbelref16_SameTree.l0 k (n + 1) x1 x2 x3 h4 = (cond (decide (x3 < (Int.ofNat x1.n)))
      ((asP (ixs 5 x1.a x1.n x3)).bind fun p5 =>
    (asSt [.str, .str, .bool, (.int .i64), .sl] (lda 5 h4 p5)).bind fun s6 =>
    (asP (ixs 5 x2.a x2.n x3)).bind fun p7 =>
    (asSt [.str, .str, .bool, (.int .i64), .sl] (lda 5 h4 p7)).bind fun s8 =>
    (corbelref16_SameVolume.f k (s6.1, s6.2.1, s6.2.2.1, s6.2.2.2.1, s6.2.2.2.2) (s8.1, s8.2.1, s8.2.2.1, s8.2.2.2.1, s8.2.2.2.2) h4).bind fun q9 =>
    cond (!q9.1)
      (some (Sum.inl false, q9.2))
      (corbelref16_SameTree.l0 k n x1 x2 (wrapA .i64 (x3 + (1 : Int))) q9.2))
      (some (Sum.inr (), h4))) := rfl
noncomputable def corbelref16_SameTree.f (k : Nat) (a0 : Sl) (a1 : Sl) (h : H) : Option ((Bool) × H) :=
  cond ((Int.ofNat a0.n) != (Int.ofNat a1.n))
      (some (false, h))
      ((corbelref16_SameTree.l0 k k a0 a1 (0 : Int) h).bind fun w10 =>
    match w10.1 with
    | .inl r11 => some (r11, w10.2)
    | .inr o12 => some (true, w10.2))
noncomputable def corbelref16_SameTree.T (k : Nat) : Tbl := tblOf [⟨58, anyArgs, wr [(.st [.str, .str, .bool, (.int .i64), .sl]), (.st [.str, .str, .bool, (.int .i64), .sl])] [.bool] (fun a h => corbelref16_SameVolume.f k (a.1) (a.2) h)⟩]
noncomputable def corbelref16_SameTree.an (k : Nat) (p : Nat) : Option Ann := cond (Nat.beq p 58) (some (.pass [] (lrun [(0, .sl), (1, .sl), (5, (.int .i64))] (some [(4, .bool)]) [] 0 (fun a h => corbelref16_SameTree.l0 k k (a.1) (a.2.1) (a.2.2) h))))
  (none)
noncomputable def corbelref16_SameTree.body : Code := (Try.f42.body).getD .skip
noncomputable def corbelref16_SameTree.c58 : Code := cat corbelref16_SameTree.body [1, 1, 0, 1, 0, 0]
set_option maxRecDepth 100000 in
theorem corbelref16_SameTree.TS {C : FuncId → Bool} {X : CallF} (hX : XOk C X) (k : Nat) : TblS Try.prog C X (corbelref16_SameTree.T k) := by
  refine tblOf_sound ?_
  intro e he
  rcases List.mem_cons.1 he with rfl | he
  · exact wr_told (corbelref16_SameVolume.told hX k)
  exact absurd he List.not_mem_nil
set_option maxRecDepth 100000 in
theorem corbelref16_SameTree.l0_pass {C : FuncId → Bool} {X : CallF} (hX : XOk C X) (k n : Nat) : PassS Try.prog C X 27 (.loop corbelref16_SameTree.c58) (lrun [(0, .sl), (1, .sl), (5, (.int .i64))] (some [(4, .bool)]) [] 0 (fun a h => corbelref16_SameTree.l0 k n (a.1) (a.2.1) (a.2.2) h)) :=
  loop_pass (ins := [(0, .sl), (1, .sl), (5, (.int .i64))]) (rets := (some [(4, .bool)])) (outs := []) (id := 0) (tbl := corbelref16_SameTree.T k) (an := corbelref16_SameTree.an k) (pb := 116) (corbelref16_SameTree.TS hX k) (fun n => (fun a h => corbelref16_SameTree.l0 k n (a.1) (a.2.1) (a.2.2) h)) (fun a h => rfl) (fun n a h => by kernel_rfl)
    (by
      have e : need (corbelref16_SameTree.an k) corbelref16_SameTree.c58 116 = [] := by kernel_rfl
      rw [e]; intro q hq; cases hq) n
set_option maxRecDepth 100000 in
theorem corbelref16_SameTree.eq (k : Nat) (a : RT [.sl, .sl]) (h : H) : (fun a h => corbelref16_SameTree.f k (a.1) (a.2) h) a h = kfun Try.prog (corbelref16_SameTree.T k) (corbelref16_SameTree.an k) (RT [.bool] × H) Try.f42 (encL [.sl, .sl] a) h (fun vs h' => (decL [.bool] vs).bind fun x => some (x, h')) := by kernel_rfl
set_option maxRecDepth 100000 in
theorem corbelref16_SameTree.told {C : FuncId → Bool} {X : CallF} (hX : XOk C X) (k : Nat) : Den.Told Try.prog C X 42 [.sl, .sl] [.bool] (fun a h => corbelref16_SameTree.f k (a.1) (a.2) h) :=
  told_of fun a h q e => fn_of (c := corbelref16_SameTree.body) (corbelref16_SameTree.TS hX k) Try.func42 (by kernel_rfl) (hX.no 42 _ h (by decide))
    (by
      have e : need (corbelref16_SameTree.an k) corbelref16_SameTree.body 1 = [(Code.loop corbelref16_SameTree.c58, lrun [(0, .sl), (1, .sl), (5, (.int .i64))] (some [(4, .bool)]) [] 0 (fun a h => corbelref16_SameTree.l0 k k (a.1) (a.2.1) (a.2.2) h))] := by kernel_rfl
      rw [e]; intro q hq
      rcases List.mem_cons.1 hq with rfl | hq
      · exact corbelref16_SameTree.l0_pass hX k k
      cases hq)
    ((corbelref16_SameTree.eq k a h).symm.trans e)
/-! ### slices.Chunk[[]byte,byte] -/
/-! ### corbel/meta.Cut -/
/-! ### corbel/corbellaw19.MetaBack -/
/-! ### corbel/corbellaw19.MetaSizes -/
/-! ### corbel/corbelhand.Odd -/
noncomputable def corbelhand_Odd.f (k : Nat) (a0 : Int) (a1 : ByteArray) (h : H) : Option ((ByteArray) × H) :=
  (corbelhand_Pick.f k a0 (40 : Int) h).bind fun q1 =>
    cond (q1.1 == (38 : Int))
      (some (a1, q1.2))
      (cond (q1.1 == (39 : Int))
      ((corbelhand_Pick.f k (wrapA .i64 (a0.tdiv (40 : Int))) (4 : Int) q1.2).bind fun q2 =>
    (asT (ixv 4 1 #[(Value.string (⟨#[]⟩ : ByteArray)), (Value.string (⟨#[85, 112, 112, 101, 114]⟩ : ByteArray)), (Value.string (⟨#[116, 111, 111, 108, 111, 110, 103, 110, 97, 109, 101]⟩ : ByteArray)), (Value.string (⟨#[97, 32, 98]⟩ : ByteArray))] q2.1)).bind fun s3 =>
    some (s3, q2.2))
      ((corbelhand_Name.f k a0 q1.2).bind fun q4 =>
    some (q4.1, q4.2)))
noncomputable def corbelhand_Odd.T (k : Nat) : Tbl := tblOf [⟨19, anyArgs, wr [(.int .i64), (.int .i64)] [(.int .i64)] (fun a h => corbelhand_Pick.f k (a.1) (a.2) h)⟩,
  ⟨59, anyArgs, wr [(.int .i64)] [.str] (fun a h => corbelhand_Name.f k a h)⟩]
noncomputable def corbelhand_Odd.an (k : Nat) (p : Nat) : Option Ann := none
noncomputable def corbelhand_Odd.body : Code := (Try.f44.body).getD .skip
set_option maxRecDepth 100000 in
theorem corbelhand_Odd.TS {C : FuncId → Bool} {X : CallF} (hX : XOk C X) (k : Nat) : TblS Try.prog C X (corbelhand_Odd.T k) := by
  refine tblOf_sound ?_
  intro e he
  rcases List.mem_cons.1 he with rfl | he
  · exact wr_told (corbelhand_Pick.told hX k)
  rcases List.mem_cons.1 he with rfl | he
  · exact wr_told (corbelhand_Name.told hX k)
  exact absurd he List.not_mem_nil
set_option maxRecDepth 100000 in
theorem corbelhand_Odd.eq (k : Nat) (a : RT [(.int .i64), .str]) (h : H) : (fun a h => corbelhand_Odd.f k (a.1) (a.2) h) a h = kfun Try.prog (corbelhand_Odd.T k) (corbelhand_Odd.an k) (RT [.str] × H) Try.f44 (encL [(.int .i64), .str] a) h (fun vs h' => (decL [.str] vs).bind fun x => some (x, h')) := by kernel_rfl
set_option maxRecDepth 100000 in
theorem corbelhand_Odd.told {C : FuncId → Bool} {X : CallF} (hX : XOk C X) (k : Nat) : Den.Told Try.prog C X 44 [(.int .i64), .str] [.str] (fun a h => corbelhand_Odd.f k (a.1) (a.2) h) :=
  told_of fun a h q e => fn_of (c := corbelhand_Odd.body) (corbelhand_Odd.TS hX k) Try.func44 (by kernel_rfl) (hX.no 44 _ h (by decide))
    (by
      have e : need (corbelhand_Odd.an k) corbelhand_Odd.body 1 = [] := by kernel_rfl
      rw [e]; intro q hq; cases hq)
    ((corbelhand_Odd.eq k a h).symm.trans e)
/-! ### corbel/corbelref16.Lay -/
/-! ### corbel/corbelref16.take -/
/-! ### corbel/corbelref16.Read -/
/-! ### corbel/corbelref16.Cut -/
/-! ### corbel/corbellaw19.MetaLays -/
end Go.Proofs.Ytfenkpghcbohdaa.Fwd
