/- Forward runs of functions of the program, printed by a program of this session: each function on plain values and memory, and that the code comes to it. No condition. -/
import Derived.Test.YtfenkpghcbohdaaDenCmp
import Derived.KernelRfl
import Derived.Test.YtfenkpghcbohdaaFRoot
namespace Go.Proofs.Ytfenkpghcbohdaa.Fwd
open Go Den
set_option linter.unusedVariables false
/-! ### corbel/corbelhand.Name -/
noncomputable def corbelhand_Name.f (k : Nat) (a0 : Int) (h : H) : Option ((ByteArray) × H) :=
  (corbelhand_Pick.f k a0 (7 : Int) h).bind fun q1 =>
    (asT (ixv 7 1 #[(Value.string (⟨#[97]⟩ : ByteArray)), (Value.string (⟨#[98]⟩ : ByteArray)), (Value.string (⟨#[99]⟩ : ByteArray)), (Value.string (⟨#[118, 111, 108, 49]⟩ : ByteArray)), (Value.string (⟨#[115, 110, 97, 112]⟩ : ByteArray)), (Value.string (⟨#[122, 122, 57]⟩ : ByteArray)), (Value.string (⟨#[120]⟩ : ByteArray))] q1.1)).bind fun s2 =>
    some (s2, q1.2)
noncomputable def corbelhand_Name.T (k : Nat) : Tbl := tblOf [⟨19, anyArgs, wr [(.int .i64), (.int .i64)] [(.int .i64)] (fun a h => corbelhand_Pick.f k (a.1) (a.2) h)⟩]
noncomputable def corbelhand_Name.an (k : Nat) (p : Nat) : Option Ann := none
noncomputable def corbelhand_Name.body : Code := (Try.f59.body).getD .skip
set_option maxRecDepth 100000 in
theorem corbelhand_Name.TS {C : FuncId → Bool} {X : CallF} (hX : XOk C X) (k : Nat) : TblS Try.prog C X (corbelhand_Name.T k) := by
  refine tblOf_sound ?_
  intro e he
  rcases List.mem_cons.1 he with rfl | he
  · exact wr_told (corbelhand_Pick.told hX k)
  exact absurd he List.not_mem_nil
set_option maxRecDepth 100000 in
theorem corbelhand_Name.eq (k : Nat) (a : RT [(.int .i64)]) (h : H) : (fun a h => corbelhand_Name.f k a h) a h = kfun Try.prog (corbelhand_Name.T k) (corbelhand_Name.an k) (RT [.str] × H) Try.f59 (encL [(.int .i64)] a) h (fun vs h' => (decL [.str] vs).bind fun x => some (x, h')) := by kernel_rfl
set_option maxRecDepth 100000 in
theorem corbelhand_Name.told {C : FuncId → Bool} {X : CallF} (hX : XOk C X) (k : Nat) : Den.Told Try.prog C X 59 [(.int .i64)] [.str] (fun a h => corbelhand_Name.f k a h) :=
  told_of fun a h q e => fn_of (c := corbelhand_Name.body) (corbelhand_Name.TS hX k) Try.func59 (by kernel_rfl) (hX.no 59 _ h (by decide))
    (by
      have e : need (corbelhand_Name.an k) corbelhand_Name.body 1 = [] := by kernel_rfl
      rw [e]; intro q hq; cases hq)
    ((corbelhand_Name.eq k a h).symm.trans e)
/-! ### corbel/corbelref16.IsName -/
noncomputable def corbelref16_IsName.l0 (k : Nat) (n : Nat) : ByteArray → Int → H → Option (((Bool) ⊕ (Unit)) × H) :=
  Nat.rec (motive := fun _ => ByteArray → Int → H → Option (((Bool) ⊕ (Unit)) × H)) (fun _ _ _ => none) (fun _ ih x1 x2 h3 => cond (decide (x2 < (Int.ofNat x1.data.toList.length)))
      ((asI .u8 (ixt x1 x2)).bind fun n4 =>
    (cond (decide (n4 ≥ (97 : Int))) ((asI .u8 (ixt x1 x2)).bind fun n5 =>
    some (decide (n5 ≤ (122 : Int)), h3))
      (some (false, h3))).bind fun g6 =>
    (cond g6.1 (some (true, g6.2))
      ((asI .u8 (ixt x1 x2)).bind fun n7 =>
    (cond (decide (n7 ≥ (48 : Int))) ((asI .u8 (ixt x1 x2)).bind fun n8 =>
    some (decide (n8 ≤ (57 : Int)), g6.2))
      (some (false, g6.2))).bind fun g9 =>
    some (g9.1, g9.2))).bind fun g10 =>
    cond (!g10.1)
      (some (Sum.inl false, g10.2))
      (ih x1 (wrapA .i64 (x2 + (1 : Int))) g10.2))
      (some (Sum.inr (), h3))) n
theorem corbelref16_IsName.l0_zero (k : Nat) (x1 : ByteArray) (x2 : Int) (h3 : H) : corbelref16_IsName.l0 k 0 x1 x2 h3 = none := rfl
theorem corbelref16_IsName.l0_succ (k n : Nat) (x1 : ByteArray) (x2 : Int) (h3 : H) : corbelref16_IsName.l0 k (n + 1) x1 x2 h3 = (cond (decide (x2 < (Int.ofNat x1.data.toList.length)))
      ((asI .u8 (ixt x1 x2)).bind fun n4 =>
    (cond (decide (n4 ≥ (97 : Int))) ((asI .u8 (ixt x1 x2)).bind fun n5 =>
    some (decide (n5 ≤ (122 : Int)), h3))
      (some (false, h3))).bind fun g6 =>
    (cond g6.1 (some (true, g6.2))
      ((asI .u8 (ixt x1 x2)).bind fun n7 =>
    (cond (decide (n7 ≥ (48 : Int))) ((asI .u8 (ixt x1 x2)).bind fun n8 =>
    some (decide (n8 ≤ (57 : Int)), g6.2))
      (some (false, g6.2))).bind fun g9 =>
    some (g9.1, g9.2))).bind fun g10 =>
    cond (!g10.1)
      (some (Sum.inl false, g10.2))
      (corbelref16_IsName.l0 k n x1 (wrapA .i64 (x2 + (1 : Int))) g10.2))
      (some (Sum.inr (), h3))) := rfl
noncomputable def corbelref16_IsName.f (k : Nat) (a0 : ByteArray) (h : H) : Option ((Bool) × H) :=
  (corbelref16_IsName.l0 k k a0 (0 : Int) h).bind fun w11 =>
    match w11.1 with
    | .inl r12 => some (r12, w11.2)
    | .inr o13 => (cond (decide ((Int.ofNat a0.data.toList.length) ≥ (1 : Int))) (some (decide ((Int.ofNat a0.data.toList.length) ≤ (8 : Int)), w11.2))
      (some (false, w11.2))).bind fun g14 =>
    some (g14.1, g14.2)
noncomputable def corbelref16_IsName.T (k : Nat) : Tbl := tblOf []
noncomputable def corbelref16_IsName.an (k : Nat) (p : Nat) : Option Ann := cond (Nat.beq p 26) (some (.pass [0] (lrun [(0, .str), (3, (.int .i64))] (some [(2, .bool)]) [] 0 (fun a h => corbelref16_IsName.l0 k k (a.1) (a.2) h))))
  (none)
noncomputable def corbelref16_IsName.body : Code := (Try.f66.body).getD .skip
noncomputable def corbelref16_IsName.c26 : Code := cat corbelref16_IsName.body [1, 0, 1, 0, 0]
set_option maxRecDepth 100000 in
theorem corbelref16_IsName.TS {C : FuncId → Bool} {X : CallF} (hX : XOk C X) (k : Nat) : TblS Try.prog C X (corbelref16_IsName.T k) := by
  refine tblOf_sound ?_
  intro e he
  exact absurd he List.not_mem_nil
set_option maxRecDepth 100000 in
theorem corbelref16_IsName.l0_pass {C : FuncId → Bool} {X : CallF} (hX : XOk C X) (k n : Nat) : PassS Try.prog C X 41 (.loop corbelref16_IsName.c26) (lrun [(0, .str), (3, (.int .i64))] (some [(2, .bool)]) [] 0 (fun a h => corbelref16_IsName.l0 k n (a.1) (a.2) h)) :=
  loop_pass (ins := [(0, .str), (3, (.int .i64))]) (rets := (some [(2, .bool)])) (outs := []) (id := 0) (tbl := corbelref16_IsName.T k) (an := corbelref16_IsName.an k) (pb := 52) (corbelref16_IsName.TS hX k) (fun n => (fun a h => corbelref16_IsName.l0 k n (a.1) (a.2) h)) (fun a h => rfl) (fun n a h => by kernel_rfl)
    (by
      have e : need (corbelref16_IsName.an k) corbelref16_IsName.c26 52 = [] := by kernel_rfl
      rw [e]; intro q hq; cases hq) n
set_option maxRecDepth 100000 in
theorem corbelref16_IsName.eq (k : Nat) (a : RT [.str]) (h : H) : (fun a h => corbelref16_IsName.f k a h) a h = kfun Try.prog (corbelref16_IsName.T k) (corbelref16_IsName.an k) (RT [.bool] × H) Try.f66 (encL [.str] a) h (fun vs h' => (decL [.bool] vs).bind fun x => some (x, h')) := by kernel_rfl
set_option maxRecDepth 100000 in
theorem corbelref16_IsName.told {C : FuncId → Bool} {X : CallF} (hX : XOk C X) (k : Nat) : Den.Told Try.prog C X 66 [.str] [.bool] (fun a h => corbelref16_IsName.f k a h) :=
  told_of fun a h q e => fn_of (c := corbelref16_IsName.body) (corbelref16_IsName.TS hX k) Try.func66 (by kernel_rfl) (hX.no 66 _ h (by decide))
    (by
      have e : need (corbelref16_IsName.an k) corbelref16_IsName.body 1 = [(Code.loop corbelref16_IsName.c26, lrun [(0, .str), (3, (.int .i64))] (some [(2, .bool)]) [] 0 (fun a h => corbelref16_IsName.l0 k k (a.1) (a.2) h))] := by kernel_rfl
      rw [e]; intro q hq
      rcases List.mem_cons.1 hq with rfl | hq
      · exact corbelref16_IsName.l0_pass hX k k
      cases hq)
    ((corbelref16_IsName.eq k a h).symm.trans e)
/-! ### corbel/corbelref16.RightMap -/
noncomputable def corbelref16_RightMap.l0 (k : Nat) (n : Nat) : Sl → Int → H → Option (((Bool) ⊕ (Unit)) × H) :=
  Nat.rec (motive := fun _ => Sl → Int → H → Option (((Bool) ⊕ (Unit)) × H)) (fun _ _ _ => none) (fun _ ih x4 x5 h6 => cond (decide (x5 < (Int.ofNat x4.n)))
      ((asP (ixs 1 x4.a x4.n x5)).bind fun p7 =>
    (asI .i64 (ldc h6 p7)).bind fun n8 =>
    (cond (n8 != (0 : Int)) ((asP (ixs 1 x4.a x4.n x5)).bind fun p9 =>
    (asI .i64 (ldc h6 p9)).bind fun n10 =>
    (cond (decide (n10 < (17 : Int))) (some (true, h6))
      ((asP (ixs 1 x4.a x4.n x5)).bind fun p11 =>
    (asI .i64 (ldc h6 p11)).bind fun n12 =>
    some (decide (n12 ≥ (40 : Int)), h6))).bind fun g13 =>
    some (g13.1, g13.2))
      (some (false, h6))).bind fun g14 =>
    cond g14.1
      (some (Sum.inl false, g14.2))
      (ih x4 (wrapA .i64 (x5 + (1 : Int))) g14.2))
      (some (Sum.inr (), h6))) n
theorem corbelref16_RightMap.l0_zero (k : Nat) (x4 : Sl) (x5 : Int) (h6 : H) : corbelref16_RightMap.l0 k 0 x4 x5 h6 = none := rfl
theorem corbelref16_RightMap.l0_succ (k n : Nat) (x4 : Sl) (x5 : Int) (h6 : H) : corbelref16_RightMap.l0 k (n + 1) x4 x5 h6 = (cond (decide (x5 < (Int.ofNat x4.n)))
      ((asP (ixs 1 x4.a x4.n x5)).bind fun p7 =>
    (asI .i64 (ldc h6 p7)).bind fun n8 =>
    (cond (n8 != (0 : Int)) ((asP (ixs 1 x4.a x4.n x5)).bind fun p9 =>
    (asI .i64 (ldc h6 p9)).bind fun n10 =>
    (cond (decide (n10 < (17 : Int))) (some (true, h6))
      ((asP (ixs 1 x4.a x4.n x5)).bind fun p11 =>
    (asI .i64 (ldc h6 p11)).bind fun n12 =>
    some (decide (n12 ≥ (40 : Int)), h6))).bind fun g13 =>
    some (g13.1, g13.2))
      (some (false, h6))).bind fun g14 =>
    cond g14.1
      (some (Sum.inl false, g14.2))
      (corbelref16_RightMap.l0 k n x4 (wrapA .i64 (x5 + (1 : Int))) g14.2))
      (some (Sum.inr (), h6))) := rfl
noncomputable def corbelref16_RightMap.f (k : Nat) (a0 : Int) (a1 : Sl) (h : H) : Option ((Bool) × H) :=
  (cond (decide (a0 < (0 : Int))) (some (true, h))
      (some (decide (a0 > (256 : Int)), h))).bind fun g1 =>
    (cond g1.1 (some (true, g1.2))
      (some ((a0.tmod (8 : Int)) != (0 : Int), g1.2))).bind fun g2 =>
    (cond g2.1 (some (true, g2.2))
      (some ((Int.ofNat a1.n) != (wrapA .i64 (a0.tdiv (8 : Int))), g2.2))).bind fun g3 =>
    cond g3.1
      (some (false, g3.2))
      ((corbelref16_RightMap.l0 k k a1 (0 : Int) g3.2).bind fun w15 =>
    match w15.1 with
    | .inl r16 => some (r16, w15.2)
    | .inr o17 => some (true, w15.2))
noncomputable def corbelref16_RightMap.T (k : Nat) : Tbl := tblOf []
noncomputable def corbelref16_RightMap.an (k : Nat) (p : Nat) : Option Ann := cond (Nat.beq p 58) (some (.pass [] (lrun [(1, .sl), (5, (.int .i64))] (some [(4, .bool)]) [] 0 (fun a h => corbelref16_RightMap.l0 k k (a.1) (a.2) h))))
  (none)
noncomputable def corbelref16_RightMap.body : Code := (Try.f31.body).getD .skip
noncomputable def corbelref16_RightMap.c58 : Code := cat corbelref16_RightMap.body [1, 1, 0, 1, 0, 0]
set_option maxRecDepth 100000 in
theorem corbelref16_RightMap.TS {C : FuncId → Bool} {X : CallF} (hX : XOk C X) (k : Nat) : TblS Try.prog C X (corbelref16_RightMap.T k) := by
  refine tblOf_sound ?_
  intro e he
  exact absurd he List.not_mem_nil
set_option maxRecDepth 100000 in
theorem corbelref16_RightMap.l0_pass {C : FuncId → Bool} {X : CallF} (hX : XOk C X) (k n : Nat) : PassS Try.prog C X 49 (.loop corbelref16_RightMap.c58) (lrun [(1, .sl), (5, (.int .i64))] (some [(4, .bool)]) [] 0 (fun a h => corbelref16_RightMap.l0 k n (a.1) (a.2) h)) :=
  loop_pass (ins := [(1, .sl), (5, (.int .i64))]) (rets := (some [(4, .bool)])) (outs := []) (id := 0) (tbl := corbelref16_RightMap.T k) (an := corbelref16_RightMap.an k) (pb := 116) (corbelref16_RightMap.TS hX k) (fun n => (fun a h => corbelref16_RightMap.l0 k n (a.1) (a.2) h)) (fun a h => rfl) (fun n a h => by kernel_rfl)
    (by
      have e : need (corbelref16_RightMap.an k) corbelref16_RightMap.c58 116 = [] := by kernel_rfl
      rw [e]; intro q hq; cases hq) n
set_option maxRecDepth 100000 in
theorem corbelref16_RightMap.eq (k : Nat) (a : RT [(.int .i64), .sl]) (h : H) : (fun a h => corbelref16_RightMap.f k (a.1) (a.2) h) a h = kfun Try.prog (corbelref16_RightMap.T k) (corbelref16_RightMap.an k) (RT [.bool] × H) Try.f31 (encL [(.int .i64), .sl] a) h (fun vs h' => (decL [.bool] vs).bind fun x => some (x, h')) := by kernel_rfl
set_option maxRecDepth 100000 in
theorem corbelref16_RightMap.told {C : FuncId → Bool} {X : CallF} (hX : XOk C X) (k : Nat) : Den.Told Try.prog C X 31 [(.int .i64), .sl] [.bool] (fun a h => corbelref16_RightMap.f k (a.1) (a.2) h) :=
  told_of fun a h q e => fn_of (c := corbelref16_RightMap.body) (corbelref16_RightMap.TS hX k) Try.func31 (by kernel_rfl) (hX.no 31 _ h (by decide))
    (by
      have e : need (corbelref16_RightMap.an k) corbelref16_RightMap.body 1 = [(Code.loop corbelref16_RightMap.c58, lrun [(1, .sl), (5, (.int .i64))] (some [(4, .bool)]) [] 0 (fun a h => corbelref16_RightMap.l0 k k (a.1) (a.2) h))] := by kernel_rfl
      rw [e]; intro q hq
      rcases List.mem_cons.1 hq with rfl | hq
      · exact corbelref16_RightMap.l0_pass hX k k
      cases hq)
    ((corbelref16_RightMap.eq k a h).symm.trans e)
/-! ### corbel/corbelref16.At -/
noncomputable def corbelref16_At.l0 (k : Nat) (n : Nat) : Sl → ByteArray → Int → H → Option (((Int) ⊕ (Unit)) × H) :=
  Nat.rec (motive := fun _ => Sl → ByteArray → Int → H → Option (((Int) ⊕ (Unit)) × H)) (fun _ _ _ _ => none) (fun _ ih x1 x2 x3 h4 => cond (decide (x3 < (Int.ofNat x1.n)))
      ((asP (ixs 5 x1.a x1.n x3)).bind fun p5 =>
    (asP (fadd 0 p5)).bind fun p6 =>
    (asT (ldc h4 p6)).bind fun s7 =>
    cond (s7.toList == x2.toList)
      (some (Sum.inl x3, h4))
      (ih x1 x2 (wrapA .i64 (x3 + (1 : Int))) h4))
      (some (Sum.inr (), h4))) n
theorem corbelref16_At.l0_zero (k : Nat) (x1 : Sl) (x2 : ByteArray) (x3 : Int) (h4 : H) : corbelref16_At.l0 k 0 x1 x2 x3 h4 = none := rfl
theorem corbelref16_At.l0_succ (k n : Nat) (x1 : Sl) (x2 : ByteArray) (x3 : Int) (h4 : H) : corbelref16_At.l0 k (n + 1) x1 x2 x3 h4 = (cond (decide (x3 < (Int.ofNat x1.n)))
      ((asP (ixs 5 x1.a x1.n x3)).bind fun p5 =>
    (asP (fadd 0 p5)).bind fun p6 =>
    (asT (ldc h4 p6)).bind fun s7 =>
    cond (s7.toList == x2.toList)
      (some (Sum.inl x3, h4))
      (corbelref16_At.l0 k n x1 x2 (wrapA .i64 (x3 + (1 : Int))) h4))
      (some (Sum.inr (), h4))) := rfl
noncomputable def corbelref16_At.f (k : Nat) (a0 : Sl) (a1 : ByteArray) (h : H) : Option ((Int) × H) :=
  (corbelref16_At.l0 k k a0 a1 (0 : Int) h).bind fun w8 =>
    match w8.1 with
    | .inl r9 => some (r9, w8.2)
    | .inr o10 => some ((-1 : Int), w8.2)
noncomputable def corbelref16_At.T (k : Nat) : Tbl := tblOf []
noncomputable def corbelref16_At.an (k : Nat) (p : Nat) : Option Ann := cond (Nat.beq p 26) (some (.pass [] (lrun [(0, .sl), (1, .str), (5, (.int .i64))] (some [(4, (.int .i64))]) [] 0 (fun a h => corbelref16_At.l0 k k (a.1) (a.2.1) (a.2.2) h))))
  (none)
noncomputable def corbelref16_At.body : Code := (Try.f57.body).getD .skip
noncomputable def corbelref16_At.c26 : Code := cat corbelref16_At.body [1, 0, 1, 0, 0]
set_option maxRecDepth 100000 in
theorem corbelref16_At.TS {C : FuncId → Bool} {X : CallF} (hX : XOk C X) (k : Nat) : TblS Try.prog C X (corbelref16_At.T k) := by
  refine tblOf_sound ?_
  intro e he
  exact absurd he List.not_mem_nil
set_option maxRecDepth 100000 in
theorem corbelref16_At.l0_pass {C : FuncId → Bool} {X : CallF} (hX : XOk C X) (k n : Nat) : PassS Try.prog C X 20 (.loop corbelref16_At.c26) (lrun [(0, .sl), (1, .str), (5, (.int .i64))] (some [(4, (.int .i64))]) [] 0 (fun a h => corbelref16_At.l0 k n (a.1) (a.2.1) (a.2.2) h)) :=
  loop_pass (ins := [(0, .sl), (1, .str), (5, (.int .i64))]) (rets := (some [(4, (.int .i64))])) (outs := []) (id := 0) (tbl := corbelref16_At.T k) (an := corbelref16_At.an k) (pb := 52) (corbelref16_At.TS hX k) (fun n => (fun a h => corbelref16_At.l0 k n (a.1) (a.2.1) (a.2.2) h)) (fun a h => rfl) (fun n a h => by kernel_rfl)
    (by
      have e : need (corbelref16_At.an k) corbelref16_At.c26 52 = [] := by kernel_rfl
      rw [e]; intro q hq; cases hq) n
set_option maxRecDepth 100000 in
theorem corbelref16_At.eq (k : Nat) (a : RT [.sl, .str]) (h : H) : (fun a h => corbelref16_At.f k (a.1) (a.2) h) a h = kfun Try.prog (corbelref16_At.T k) (corbelref16_At.an k) (RT [(.int .i64)] × H) Try.f57 (encL [.sl, .str] a) h (fun vs h' => (decL [(.int .i64)] vs).bind fun x => some (x, h')) := by kernel_rfl
set_option maxRecDepth 100000 in
theorem corbelref16_At.told {C : FuncId → Bool} {X : CallF} (hX : XOk C X) (k : Nat) : Den.Told Try.prog C X 57 [.sl, .str] [(.int .i64)] (fun a h => corbelref16_At.f k (a.1) (a.2) h) :=
  told_of fun a h q e => fn_of (c := corbelref16_At.body) (corbelref16_At.TS hX k) Try.func57 (by kernel_rfl) (hX.no 57 _ h (by decide))
    (by
      have e : need (corbelref16_At.an k) corbelref16_At.body 1 = [(Code.loop corbelref16_At.c26, lrun [(0, .sl), (1, .str), (5, (.int .i64))] (some [(4, (.int .i64))]) [] 0 (fun a h => corbelref16_At.l0 k k (a.1) (a.2.1) (a.2.2) h))] := by kernel_rfl
      rw [e]; intro q hq
      rcases List.mem_cons.1 hq with rfl | hq
      · exact corbelref16_At.l0_pass hX k k
      cases hq)
    ((corbelref16_At.eq k a h).symm.trans e)
/-! ### corbel/corbelref16.RightTree -/
noncomputable def corbelref16_RightTree.l0 (k : Nat) (n : Nat) : Sl → Int → H → Option (((Bool) ⊕ (Unit)) × H) :=
  Nat.rec (motive := fun _ => Sl → Int → H → Option (((Bool) ⊕ (Unit)) × H)) (fun _ _ _ => none) (fun _ ih x1 x2 h3 => cond (decide (x2 < (Int.ofNat x1.n)))
      ((asP (ixs 5 x1.a x1.n x2)).bind fun p4 =>
    (asSt [.str, .str, .bool, (.int .i64), .sl] (lda 5 h3 p4)).bind fun s5 =>
    (stv 5 (newR h3 58 5 [(Value.string (⟨#[]⟩ : ByteArray)), (Value.string (⟨#[]⟩ : ByteArray)), (Value.bool false), (Value.int .i64 (0 : Int)), (Value.slice none 0 0)]) (some ⟨h3.next, 0, none⟩) [(Value.string s5.1), (Value.string s5.2.1), (Value.bool s5.2.2.1), (Value.int .i64 s5.2.2.2.1), (Value.slice s5.2.2.2.2.a s5.2.2.2.2.n s5.2.2.2.2.c)]).bind fun q6 =>
    (asT (ldc q6.2 (some ⟨h3.next, 0, none⟩))).bind fun s7 =>
    (corbelref16_IsName.f k s7 q6.2).bind fun q8 =>
    (cond (!q8.1) (some (true, q8.2, [], []))
      ((cond (decide (x2 > (0 : Int))) ((asT (ldc q8.2 (some ⟨h3.next, 0, none⟩))).bind fun s9 =>
    (asP (ixs 5 x1.a x1.n (wrapA .i64 (x2 - (1 : Int))))).bind fun p10 =>
    (asP (fadd 0 p10)).bind fun p11 =>
    (asT (ldc q8.2 p11)).bind fun s12 =>
    some (Op.bytesLess s9.toList s12.toList || s9.toList == s12.toList, q8.2, [], []))
      (some (false, q8.2, [], [])) : Option (Bool × H × LEs × EFs)).bind fun g13 =>
    some (g13.1, g13.2.1, g13.2.2.1, g13.2.2.2)) : Option (Bool × H × LEs × EFs)).bind fun g14 =>
    (cond g14.1 (some (true, g14.2.1, [], []))
      ((asI .i64 (ldc g14.2.1 (some ⟨h3.next, 3, none⟩))).bind fun n15 =>
    (asS (ldc g14.2.1 (some ⟨h3.next, 4, none⟩))).bind fun s16 =>
    (corbelref16_RightMap.f k n15 s16 g14.2.1).bind fun q17 =>
    some (!q17.1, q17.2, [], [])) : Option (Bool × H × LEs × EFs)).bind fun g18 =>
    cond g18.1
      (some (Sum.inl false, g18.2.1))
      ((asT (ldc g18.2.1 (some ⟨h3.next, 1, none⟩))).bind fun s19 =>
    cond (s19.toList == (⟨#[]⟩ : ByteArray).toList)
      (ih x1 (wrapA .i64 (x2 + (1 : Int))) g18.2.1)
      ((asT (ldc g18.2.1 (some ⟨h3.next, 1, none⟩))).bind fun s20 =>
    (corbelref16_At.f k x1 s20 g18.2.1).bind fun q21 =>
    (cond (decide (q21.1 < (0 : Int))) (some (true, q21.2, [], []))
      (some (q21.1 == x2, q21.2, [], [])) : Option (Bool × H × LEs × EFs)).bind fun g22 =>
    (cond g22.1 (some (true, g22.2.1, [], []))
      ((asP (ixs 5 x1.a x1.n q21.1)).bind fun p23 =>
    (asP (fadd 2 p23)).bind fun p24 =>
    (asB (ldc g22.2.1 p24)).bind fun b25 =>
    (asB (ldc g22.2.1 (some ⟨h3.next, 2, none⟩))).bind fun b26 =>
    some (b25 == b26, g22.2.1, [], [])) : Option (Bool × H × LEs × EFs)).bind fun g27 =>
    cond g27.1
      (some (Sum.inl false, g27.2.1))
      (ih x1 (wrapA .i64 (x2 + (1 : Int))) g27.2.1))))
      (some (Sum.inr (), h3))) n
theorem corbelref16_RightTree.l0_zero (k : Nat) (x1 : Sl) (x2 : Int) (h3 : H) : corbelref16_RightTree.l0 k 0 x1 x2 h3 = none := rfl
theorem corbelref16_RightTree.l0_succ (k n : Nat) (x1 : Sl) (x2 : Int) (h3 : H) : corbelref16_RightTree.l0 k (n + 1) x1 x2 h3 = (cond (decide (x2 < (Int.ofNat x1.n)))
      ((asP (ixs 5 x1.a x1.n x2)).bind fun p4 =>
    (asSt [.str, .str, .bool, (.int .i64), .sl] (lda 5 h3 p4)).bind fun s5 =>
    (stv 5 (newR h3 58 5 [(Value.string (⟨#[]⟩ : ByteArray)), (Value.string (⟨#[]⟩ : ByteArray)), (Value.bool false), (Value.int .i64 (0 : Int)), (Value.slice none 0 0)]) (some ⟨h3.next, 0, none⟩) [(Value.string s5.1), (Value.string s5.2.1), (Value.bool s5.2.2.1), (Value.int .i64 s5.2.2.2.1), (Value.slice s5.2.2.2.2.a s5.2.2.2.2.n s5.2.2.2.2.c)]).bind fun q6 =>
    (asT (ldc q6.2 (some ⟨h3.next, 0, none⟩))).bind fun s7 =>
    (corbelref16_IsName.f k s7 q6.2).bind fun q8 =>
    (cond (!q8.1) (some (true, q8.2, [], []))
      ((cond (decide (x2 > (0 : Int))) ((asT (ldc q8.2 (some ⟨h3.next, 0, none⟩))).bind fun s9 =>
    (asP (ixs 5 x1.a x1.n (wrapA .i64 (x2 - (1 : Int))))).bind fun p10 =>
    (asP (fadd 0 p10)).bind fun p11 =>
    (asT (ldc q8.2 p11)).bind fun s12 =>
    some (Op.bytesLess s9.toList s12.toList || s9.toList == s12.toList, q8.2, [], []))
      (some (false, q8.2, [], [])) : Option (Bool × H × LEs × EFs)).bind fun g13 =>
    some (g13.1, g13.2.1, g13.2.2.1, g13.2.2.2)) : Option (Bool × H × LEs × EFs)).bind fun g14 =>
    (cond g14.1 (some (true, g14.2.1, [], []))
      ((asI .i64 (ldc g14.2.1 (some ⟨h3.next, 3, none⟩))).bind fun n15 =>
    (asS (ldc g14.2.1 (some ⟨h3.next, 4, none⟩))).bind fun s16 =>
    (corbelref16_RightMap.f k n15 s16 g14.2.1).bind fun q17 =>
    some (!q17.1, q17.2, [], [])) : Option (Bool × H × LEs × EFs)).bind fun g18 =>
    cond g18.1
      (some (Sum.inl false, g18.2.1))
      ((asT (ldc g18.2.1 (some ⟨h3.next, 1, none⟩))).bind fun s19 =>
    cond (s19.toList == (⟨#[]⟩ : ByteArray).toList)
      (corbelref16_RightTree.l0 k n x1 (wrapA .i64 (x2 + (1 : Int))) g18.2.1)
      ((asT (ldc g18.2.1 (some ⟨h3.next, 1, none⟩))).bind fun s20 =>
    (corbelref16_At.f k x1 s20 g18.2.1).bind fun q21 =>
    (cond (decide (q21.1 < (0 : Int))) (some (true, q21.2, [], []))
      (some (q21.1 == x2, q21.2, [], [])) : Option (Bool × H × LEs × EFs)).bind fun g22 =>
    (cond g22.1 (some (true, g22.2.1, [], []))
      ((asP (ixs 5 x1.a x1.n q21.1)).bind fun p23 =>
    (asP (fadd 2 p23)).bind fun p24 =>
    (asB (ldc g22.2.1 p24)).bind fun b25 =>
    (asB (ldc g22.2.1 (some ⟨h3.next, 2, none⟩))).bind fun b26 =>
    some (b25 == b26, g22.2.1, [], [])) : Option (Bool × H × LEs × EFs)).bind fun g27 =>
    cond g27.1
      (some (Sum.inl false, g27.2.1))
      (corbelref16_RightTree.l0 k n x1 (wrapA .i64 (x2 + (1 : Int))) g27.2.1))))
      (some (Sum.inr (), h3))) := rfl
noncomputable def corbelref16_RightTree.f (k : Nat) (a0 : Sl) (h : H) : Option ((Bool) × H) :=
  (corbelref16_RightTree.l0 k k a0 (0 : Int) h).bind fun w28 =>
    match w28.1 with
    | .inl r29 => some (r29, w28.2)
    | .inr o30 => some (decide ((Int.ofNat a0.n) ≤ (12 : Int)), w28.2)
noncomputable def corbelref16_RightTree.T (k : Nat) : Tbl := tblOf [⟨66, anyArgs, wr [.str] [.bool] (fun a h => corbelref16_IsName.f k a h)⟩,
  ⟨31, anyArgs, wr [(.int .i64), .sl] [.bool] (fun a h => corbelref16_RightMap.f k (a.1) (a.2) h)⟩,
  ⟨57, anyArgs, wr [.sl, .str] [(.int .i64)] (fun a h => corbelref16_At.f k (a.1) (a.2) h)⟩]
noncomputable def corbelref16_RightTree.an (k : Nat) (p : Nat) : Option Ann := cond (Nat.beq p 26) (some (.pass [0] (lrun [(0, .sl), (3, (.int .i64))] (some [(2, .bool)]) [] 0 (fun a h => corbelref16_RightTree.l0 k k (a.1) (a.2) h))))
  (none)
noncomputable def corbelref16_RightTree.body : Code := (Try.f48.body).getD .skip
noncomputable def corbelref16_RightTree.c26 : Code := cat corbelref16_RightTree.body [1, 0, 1, 0, 0]
set_option maxRecDepth 100000 in
theorem corbelref16_RightTree.TS {C : FuncId → Bool} {X : CallF} (hX : XOk C X) (k : Nat) : TblS Try.prog C X (corbelref16_RightTree.T k) := by
  refine tblOf_sound ?_
  intro e he
  rcases List.mem_cons.1 he with rfl | he
  · exact wr_told (corbelref16_IsName.told hX k)
  rcases List.mem_cons.1 he with rfl | he
  · exact wr_told (corbelref16_RightMap.told hX k)
  rcases List.mem_cons.1 he with rfl | he
  · exact wr_told (corbelref16_At.told hX k)
  exact absurd he List.not_mem_nil
set_option maxRecDepth 100000 in
theorem corbelref16_RightTree.l0_pass {C : FuncId → Bool} {X : CallF} (hX : XOk C X) (k n : Nat) : PassS Try.prog C X 70 (.loop corbelref16_RightTree.c26) (lrun [(0, .sl), (3, (.int .i64))] (some [(2, .bool)]) [] 0 (fun a h => corbelref16_RightTree.l0 k n (a.1) (a.2) h)) :=
  loop_pass (ins := [(0, .sl), (3, (.int .i64))]) (rets := (some [(2, .bool)])) (outs := []) (id := 0) (tbl := corbelref16_RightTree.T k) (an := corbelref16_RightTree.an k) (pb := 52) (corbelref16_RightTree.TS hX k) (fun n => (fun a h => corbelref16_RightTree.l0 k n (a.1) (a.2) h)) (fun a h => rfl) (fun n a h => by kernel_rfl)
    (by
      have e : need (corbelref16_RightTree.an k) corbelref16_RightTree.c26 52 = [] := by kernel_rfl
      rw [e]; intro q hq; cases hq) n
set_option maxRecDepth 100000 in
theorem corbelref16_RightTree.eq (k : Nat) (a : RT [.sl]) (h : H) : (fun a h => corbelref16_RightTree.f k a h) a h = kfun Try.prog (corbelref16_RightTree.T k) (corbelref16_RightTree.an k) (RT [.bool] × H) Try.f48 (encL [.sl] a) h (fun vs h' => (decL [.bool] vs).bind fun x => some (x, h')) := by kernel_rfl
set_option maxRecDepth 100000 in
theorem corbelref16_RightTree.told {C : FuncId → Bool} {X : CallF} (hX : XOk C X) (k : Nat) : Den.Told Try.prog C X 48 [.sl] [.bool] (fun a h => corbelref16_RightTree.f k a h) :=
  told_of fun a h q e => fn_of (c := corbelref16_RightTree.body) (corbelref16_RightTree.TS hX k) Try.func48 (by kernel_rfl) (hX.no 48 _ h (by decide))
    (by
      have e : need (corbelref16_RightTree.an k) corbelref16_RightTree.body 1 = [(Code.loop corbelref16_RightTree.c26, lrun [(0, .sl), (3, (.int .i64))] (some [(2, .bool)]) [] 0 (fun a h => corbelref16_RightTree.l0 k k (a.1) (a.2) h))] := by kernel_rfl
      rw [e]; intro q hq
      rcases List.mem_cons.1 hq with rfl | hq
      · exact corbelref16_RightTree.l0_pass hX k k
      cases hq)
    ((corbelref16_RightTree.eq k a h).symm.trans e)
/-! ### corbel/corbelref16.RightSize -/
noncomputable def corbelref16_RightSize.f (k : Nat) (a0 : Int) (h : H) : Option ((Bool) × H) :=
  (cond (decide (a0 ≥ (0 : Int))) (some (decide (a0 ≤ (256 : Int)), h))
      (some (false, h))).bind fun g1 =>
    (cond g1.1 (some ((a0.tmod (8 : Int)) == (0 : Int), g1.2))
      (some (false, g1.2))).bind fun g2 =>
    some (g2.1, g2.2)
noncomputable def corbelref16_RightSize.T (k : Nat) : Tbl := tblOf []
noncomputable def corbelref16_RightSize.an (k : Nat) (p : Nat) : Option Ann := none
noncomputable def corbelref16_RightSize.body : Code := (Try.f70.body).getD .skip
set_option maxRecDepth 100000 in
theorem corbelref16_RightSize.TS {C : FuncId → Bool} {X : CallF} (hX : XOk C X) (k : Nat) : TblS Try.prog C X (corbelref16_RightSize.T k) := by
  refine tblOf_sound ?_
  intro e he
  exact absurd he List.not_mem_nil
set_option maxRecDepth 100000 in
theorem corbelref16_RightSize.eq (k : Nat) (a : RT [(.int .i64)]) (h : H) : (fun a h => corbelref16_RightSize.f k a h) a h = kfun Try.prog (corbelref16_RightSize.T k) (corbelref16_RightSize.an k) (RT [.bool] × H) Try.f70 (encL [(.int .i64)] a) h (fun vs h' => (decL [.bool] vs).bind fun x => some (x, h')) := by kernel_rfl
set_option maxRecDepth 100000 in
theorem corbelref16_RightSize.told {C : FuncId → Bool} {X : CallF} (hX : XOk C X) (k : Nat) : Den.Told Try.prog C X 70 [(.int .i64)] [.bool] (fun a h => corbelref16_RightSize.f k a h) :=
  told_of fun a h q e => fn_of (c := corbelref16_RightSize.body) (corbelref16_RightSize.TS hX k) Try.func70 (by kernel_rfl) (hX.no 70 _ h (by decide))
    (by
      have e : need (corbelref16_RightSize.an k) corbelref16_RightSize.body 1 = [] := by kernel_rfl
      rw [e]; intro q hq; cases hq)
    ((corbelref16_RightSize.eq k a h).symm.trans e)
/-! ### corbel/corbelref16.Sized -/
noncomputable def corbelref16_Sized.l1 (k : Nat) (n : Nat) : Sl → Sl → Sl → Int → H → Option ((Sl) × H) :=
  Nat.rec (motive := fun _ => Sl → Sl → Sl → Int → H → Option ((Sl) × H)) (fun _ _ _ _ _ => none) (fun _ ih x14 x15 x16 x17 h18 => cond (decide (x17 < (Int.ofNat x14.n)))
      ((asP (ixs 1 x14.a x14.n x17)).bind fun p19 =>
    (asI .i64 (ldc h18 p19)).bind fun n20 =>
    (cond (n20 != (0 : Int))
      ((asP (ixs 1 x14.a x14.n x17)).bind fun p21 =>
    (asI .i64 (ldc h18 p21)).bind fun n22 =>
    (asS2 (apv 3 1 8 (Value.slice x16.a x16.n x16.c) (Value.slice (some ⟨h18.next, 0, none⟩) 1 1) (newR h18 3 1 [(Value.int .i64 n22)]))).bind fun q23 =>
    some (q23.1, q23.2))
      (some (x16, h18)) : Option ((Sl) × H)).bind fun j24 =>
    ih x14 x15 j24.1 (wrapA .i64 (x17 + (1 : Int))) j24.2)
      (some (x16, h18))) n
theorem corbelref16_Sized.l1_zero (k : Nat) (x14 : Sl) (x15 : Sl) (x16 : Sl) (x17 : Int) (h18 : H) : corbelref16_Sized.l1 k 0 x14 x15 x16 x17 h18 = none := rfl
theorem corbelref16_Sized.l1_succ (k n : Nat) (x14 : Sl) (x15 : Sl) (x16 : Sl) (x17 : Int) (h18 : H) : corbelref16_Sized.l1 k (n + 1) x14 x15 x16 x17 h18 = (cond (decide (x17 < (Int.ofNat x14.n)))
      ((asP (ixs 1 x14.a x14.n x17)).bind fun p19 =>
    (asI .i64 (ldc h18 p19)).bind fun n20 =>
    (cond (n20 != (0 : Int))
      ((asP (ixs 1 x14.a x14.n x17)).bind fun p21 =>
    (asI .i64 (ldc h18 p21)).bind fun n22 =>
    (asS2 (apv 3 1 8 (Value.slice x16.a x16.n x16.c) (Value.slice (some ⟨h18.next, 0, none⟩) 1 1) (newR h18 3 1 [(Value.int .i64 n22)]))).bind fun q23 =>
    some (q23.1, q23.2))
      (some (x16, h18)) : Option ((Sl) × H)).bind fun j24 =>
    corbelref16_Sized.l1 k n x14 x15 j24.1 (wrapA .i64 (x17 + (1 : Int))) j24.2)
      (some (x16, h18))) := rfl
noncomputable def corbelref16_Sized.l0 (k : Nat) (n : Nat) : Sl → Int → Sl → Sl → Int → H → Option ((Sl) × H) :=
  Nat.rec (motive := fun _ => Sl → Int → Sl → Sl → Int → H → Option ((Sl) × H)) (fun _ _ _ _ _ _ => none) (fun _ ih x2 x3 x4 x5 x6 h7 => cond (decide (x6 < x3))
      ((cond (decide (x6 < (Int.ofNat x2.n)))
      ((asP (ixs 1 x2.a x2.n x6)).bind fun p8 =>
    (asI .i64 (ldc h7 p8)).bind fun n9 =>
    (asS2 (apv 3 1 8 (Value.slice x5.a x5.n x5.c) (Value.slice (some ⟨h7.next, 0, none⟩) 1 1) (newR h7 3 1 [(Value.int .i64 n9)]))).bind fun q10 =>
    some (q10.1, q10.2))
      ((asS2 (apv 3 1 8 (Value.slice x5.a x5.n x5.c) (Value.slice (some ⟨h7.next, 0, none⟩) 1 1) (newR h7 3 1 [(Value.int .i64 (0 : Int))]))).bind fun q11 =>
    some (q11.1, q11.2)) : Option ((Sl) × H)).bind fun j12 =>
    ih x2 x3 x4 j12.1 (wrapA .i64 (x6 + (1 : Int))) j12.2)
      (some (x5, h7))) n
theorem corbelref16_Sized.l0_zero (k : Nat) (x2 : Sl) (x3 : Int) (x4 : Sl) (x5 : Sl) (x6 : Int) (h7 : H) : corbelref16_Sized.l0 k 0 x2 x3 x4 x5 x6 h7 = none := rfl
theorem corbelref16_Sized.l0_succ (k n : Nat) (x2 : Sl) (x3 : Int) (x4 : Sl) (x5 : Sl) (x6 : Int) (h7 : H) : corbelref16_Sized.l0 k (n + 1) x2 x3 x4 x5 x6 h7 = (cond (decide (x6 < x3))
      ((cond (decide (x6 < (Int.ofNat x2.n)))
      ((asP (ixs 1 x2.a x2.n x6)).bind fun p8 =>
    (asI .i64 (ldc h7 p8)).bind fun n9 =>
    (asS2 (apv 3 1 8 (Value.slice x5.a x5.n x5.c) (Value.slice (some ⟨h7.next, 0, none⟩) 1 1) (newR h7 3 1 [(Value.int .i64 n9)]))).bind fun q10 =>
    some (q10.1, q10.2))
      ((asS2 (apv 3 1 8 (Value.slice x5.a x5.n x5.c) (Value.slice (some ⟨h7.next, 0, none⟩) 1 1) (newR h7 3 1 [(Value.int .i64 (0 : Int))]))).bind fun q11 =>
    some (q11.1, q11.2)) : Option ((Sl) × H)).bind fun j12 =>
    corbelref16_Sized.l0 k n x2 x3 x4 j12.1 (wrapA .i64 (x6 + (1 : Int))) j12.2)
      (some (x5, h7))) := rfl
noncomputable def corbelref16_Sized.f (k : Nat) (a0 : Sl) (a1 : Int) (h : H) : Option ((Sl × Sl) × H) :=
  (corbelref16_RightSize.f k a1 h).bind fun q1 =>
    cond (!q1.1)
      (some (((⟨none, 0, 0⟩ : Sl), (⟨none, 0, 0⟩ : Sl)), q1.2))
      ((corbelref16_Sized.l0 k k a0 (wrapA .i64 (a1.tdiv (8 : Int))) (⟨none, 0, 0⟩ : Sl) (⟨none, 0, 0⟩ : Sl) (0 : Int) q1.2).bind fun w13 =>
    (corbelref16_Sized.l1 k k a0 w13.1 (⟨none, 0, 0⟩ : Sl) (wrapA .i64 (a1.tdiv (8 : Int))) w13.2).bind fun w25 =>
    some ((w13.1, w25.1), w25.2))
noncomputable def corbelref16_Sized.T (k : Nat) : Tbl := tblOf [⟨70, anyArgs, wr [(.int .i64)] [.bool] (fun a h => corbelref16_RightSize.f k a h)⟩]
noncomputable def corbelref16_Sized.an (k : Nat) (p : Nat) : Option Ann := cond (Nat.beq p 506) (some (.pass [7] (lrun [(0, .sl), (7, .sl), (8, .sl), (10, (.int .i64))] none [(8, .sl)] 2 (fun a h => corbelref16_Sized.l1 k k (a.1) (a.2.1) (a.2.2.1) (a.2.2.2) h))))
  (cond (Nat.beq p 16201) (some (.join [0, 7, 10] none [(8, .sl)]))
  (cond (Nat.beq p 250) (some (.pass [0, 6, 8] (lrun [(0, .sl), (6, (.int .i64)), (8, .sl), (7, .sl), (9, (.int .i64))] none [(7, .sl)] 0 (fun a h => corbelref16_Sized.l0 k k (a.1) (a.2.1) (a.2.2.1) (a.2.2.2.1) (a.2.2.2.2) h))))
  (cond (Nat.beq p 8009) (some (.join [0, 6, 8, 9] none [(7, .sl)]))
  (none))))
noncomputable def corbelref16_Sized.body : Code := (Try.f29.body).getD .skip
noncomputable def corbelref16_Sized.c250 : Code := cat corbelref16_Sized.body [1, 1, 1, 1, 0, 1, 0, 0]
noncomputable def corbelref16_Sized.c506 : Code := cat corbelref16_Sized.body [1, 1, 1, 1, 1, 0, 1, 0, 0]
set_option maxRecDepth 100000 in
theorem corbelref16_Sized.TS {C : FuncId → Bool} {X : CallF} (hX : XOk C X) (k : Nat) : TblS Try.prog C X (corbelref16_Sized.T k) := by
  refine tblOf_sound ?_
  intro e he
  rcases List.mem_cons.1 he with rfl | he
  · exact wr_told (corbelref16_RightSize.told hX k)
  exact absurd he List.not_mem_nil
set_option maxRecDepth 100000 in
theorem corbelref16_Sized.l1_pass {C : FuncId → Bool} {X : CallF} (hX : XOk C X) (k n : Nat) : PassS Try.prog C X 56 (.loop corbelref16_Sized.c506) (lrun [(0, .sl), (7, .sl), (8, .sl), (10, (.int .i64))] none [(8, .sl)] 2 (fun a h => corbelref16_Sized.l1 k n (a.1) (a.2.1) (a.2.2.1) (a.2.2.2) h)) :=
  loop_pass (ins := [(0, .sl), (7, .sl), (8, .sl), (10, (.int .i64))]) (rets := none) (outs := [(8, .sl)]) (id := 2) (tbl := corbelref16_Sized.T k) (an := corbelref16_Sized.an k) (pb := 1012) (corbelref16_Sized.TS hX k) (fun n => (fun a h => corbelref16_Sized.l1 k n (a.1) (a.2.1) (a.2.2.1) (a.2.2.2) h)) (fun a h => rfl) (fun n a h => by kernel_rfl)
    (by
      have e : need (corbelref16_Sized.an k) corbelref16_Sized.c506 1012 = [] := by kernel_rfl
      rw [e]; intro q hq; cases hq) n
set_option maxRecDepth 100000 in
theorem corbelref16_Sized.l0_pass {C : FuncId → Bool} {X : CallF} (hX : XOk C X) (k n : Nat) : PassS Try.prog C X 56 (.loop corbelref16_Sized.c250) (lrun [(0, .sl), (6, (.int .i64)), (8, .sl), (7, .sl), (9, (.int .i64))] none [(7, .sl)] 0 (fun a h => corbelref16_Sized.l0 k n (a.1) (a.2.1) (a.2.2.1) (a.2.2.2.1) (a.2.2.2.2) h)) :=
  loop_pass (ins := [(0, .sl), (6, (.int .i64)), (8, .sl), (7, .sl), (9, (.int .i64))]) (rets := none) (outs := [(7, .sl)]) (id := 0) (tbl := corbelref16_Sized.T k) (an := corbelref16_Sized.an k) (pb := 500) (corbelref16_Sized.TS hX k) (fun n => (fun a h => corbelref16_Sized.l0 k n (a.1) (a.2.1) (a.2.2.1) (a.2.2.2.1) (a.2.2.2.2) h)) (fun a h => rfl) (fun n a h => by kernel_rfl)
    (by
      have e : need (corbelref16_Sized.an k) corbelref16_Sized.c250 500 = [] := by kernel_rfl
      rw [e]; intro q hq; cases hq) n
set_option maxRecDepth 100000 in
theorem corbelref16_Sized.eq (k : Nat) (a : RT [.sl, (.int .i64)]) (h : H) : (fun a h => corbelref16_Sized.f k (a.1) (a.2) h) a h = kfun Try.prog (corbelref16_Sized.T k) (corbelref16_Sized.an k) (RT [.sl, .sl] × H) Try.f29 (encL [.sl, (.int .i64)] a) h (fun vs h' => (decL [.sl, .sl] vs).bind fun x => some (x, h')) := by kernel_rfl
set_option maxRecDepth 100000 in
theorem corbelref16_Sized.told {C : FuncId → Bool} {X : CallF} (hX : XOk C X) (k : Nat) : Den.Told Try.prog C X 29 [.sl, (.int .i64)] [.sl, .sl] (fun a h => corbelref16_Sized.f k (a.1) (a.2) h) :=
  told_of fun a h q e => fn_of (c := corbelref16_Sized.body) (corbelref16_Sized.TS hX k) Try.func29 (by kernel_rfl) (hX.no 29 _ h (by decide))
    (by
      have e : need (corbelref16_Sized.an k) corbelref16_Sized.body 1 = [(Code.loop corbelref16_Sized.c250, lrun [(0, .sl), (6, (.int .i64)), (8, .sl), (7, .sl), (9, (.int .i64))] none [(7, .sl)] 0 (fun a h => corbelref16_Sized.l0 k k (a.1) (a.2.1) (a.2.2.1) (a.2.2.2.1) (a.2.2.2.2) h)), (Code.loop corbelref16_Sized.c506, lrun [(0, .sl), (7, .sl), (8, .sl), (10, (.int .i64))] none [(8, .sl)] 2 (fun a h => corbelref16_Sized.l1 k k (a.1) (a.2.1) (a.2.2.1) (a.2.2.2) h))] := by kernel_rfl
      rw [e]; intro q hq
      rcases List.mem_cons.1 hq with rfl | hq
      · exact corbelref16_Sized.l0_pass hX k k
      rcases List.mem_cons.1 hq with rfl | hq
      · exact corbelref16_Sized.l1_pass hX k k
      cases hq)
    ((corbelref16_Sized.eq k a h).symm.trans e)
/-! ### corbel/corbelref16.copied -/
noncomputable def corbelref16_copied.l0 (k : Nat) (n : Nat) : Sl → Sl → Int → H → Option ((Sl) × H) :=
  Nat.rec (motive := fun _ => Sl → Sl → Int → H → Option ((Sl) × H)) (fun _ _ _ _ => none) (fun _ ih x1 x2 x3 h4 => cond (decide (x3 < (Int.ofNat x1.n)))
      ((asP (ixs 5 x1.a x1.n x3)).bind fun p5 =>
    (asSt [.str, .str, .bool, (.int .i64), .sl] (lda 5 h4 p5)).bind fun s6 =>
    (stv 5 (newR h4 58 5 [(Value.string (⟨#[]⟩ : ByteArray)), (Value.string (⟨#[]⟩ : ByteArray)), (Value.bool false), (Value.int .i64 (0 : Int)), (Value.slice none 0 0)]) (some ⟨h4.next, 0, none⟩) [(Value.string s6.1), (Value.string s6.2.1), (Value.bool s6.2.2.1), (Value.int .i64 s6.2.2.2.1), (Value.slice s6.2.2.2.2.a s6.2.2.2.2.n s6.2.2.2.2.c)]).bind fun q7 =>
    (asS (ldc (newR q7.2 3 1 []) (some ⟨h4.next, 4, none⟩))).bind fun s8 =>
    (asS2 (apv 3 1 8 (Value.slice (some ⟨q7.2.next, 0, none⟩) 0 0) (Value.slice s8.a s8.n s8.c) (newR q7.2 3 1 []))).bind fun q9 =>
    (stv 1 q9.2 (some ⟨h4.next, 4, none⟩) [(Value.slice q9.1.a q9.1.n q9.1.c)]).bind fun q10 =>
    (asSt [.str, .str, .bool, (.int .i64), .sl] (lda 5 q10.2 (some ⟨h4.next, 0, none⟩))).bind fun s11 =>
    (asS2 (apv 58 5 72 (Value.slice x2.a x2.n x2.c) (Value.slice (some ⟨q10.2.next, 0, none⟩) 1 1) (newR q10.2 58 5 [(Value.string s11.1), (Value.string s11.2.1), (Value.bool s11.2.2.1), (Value.int .i64 s11.2.2.2.1), (Value.slice s11.2.2.2.2.a s11.2.2.2.2.n s11.2.2.2.2.c)]))).bind fun q12 =>
    ih x1 q12.1 (wrapA .i64 (x3 + (1 : Int))) q12.2)
      (some (x2, h4))) n
theorem corbelref16_copied.l0_zero (k : Nat) (x1 : Sl) (x2 : Sl) (x3 : Int) (h4 : H) : corbelref16_copied.l0 k 0 x1 x2 x3 h4 = none := rfl
theorem corbelref16_copied.l0_succ (k n : Nat) (x1 : Sl) (x2 : Sl) (x3 : Int) (h4 : H) : corbelref16_copied.l0 k (n + 1) x1 x2 x3 h4 = (cond (decide (x3 < (Int.ofNat x1.n)))
      ((asP (ixs 5 x1.a x1.n x3)).bind fun p5 =>
    (asSt [.str, .str, .bool, (.int .i64), .sl] (lda 5 h4 p5)).bind fun s6 =>
    (stv 5 (newR h4 58 5 [(Value.string (⟨#[]⟩ : ByteArray)), (Value.string (⟨#[]⟩ : ByteArray)), (Value.bool false), (Value.int .i64 (0 : Int)), (Value.slice none 0 0)]) (some ⟨h4.next, 0, none⟩) [(Value.string s6.1), (Value.string s6.2.1), (Value.bool s6.2.2.1), (Value.int .i64 s6.2.2.2.1), (Value.slice s6.2.2.2.2.a s6.2.2.2.2.n s6.2.2.2.2.c)]).bind fun q7 =>
    (asS (ldc (newR q7.2 3 1 []) (some ⟨h4.next, 4, none⟩))).bind fun s8 =>
    (asS2 (apv 3 1 8 (Value.slice (some ⟨q7.2.next, 0, none⟩) 0 0) (Value.slice s8.a s8.n s8.c) (newR q7.2 3 1 []))).bind fun q9 =>
    (stv 1 q9.2 (some ⟨h4.next, 4, none⟩) [(Value.slice q9.1.a q9.1.n q9.1.c)]).bind fun q10 =>
    (asSt [.str, .str, .bool, (.int .i64), .sl] (lda 5 q10.2 (some ⟨h4.next, 0, none⟩))).bind fun s11 =>
    (asS2 (apv 58 5 72 (Value.slice x2.a x2.n x2.c) (Value.slice (some ⟨q10.2.next, 0, none⟩) 1 1) (newR q10.2 58 5 [(Value.string s11.1), (Value.string s11.2.1), (Value.bool s11.2.2.1), (Value.int .i64 s11.2.2.2.1), (Value.slice s11.2.2.2.2.a s11.2.2.2.2.n s11.2.2.2.2.c)]))).bind fun q12 =>
    corbelref16_copied.l0 k n x1 q12.1 (wrapA .i64 (x3 + (1 : Int))) q12.2)
      (some (x2, h4))) := rfl
noncomputable def corbelref16_copied.f (k : Nat) (a0 : Sl) (h : H) : Option ((Sl) × H) :=
  (corbelref16_copied.l0 k k a0 (⟨none, 0, 0⟩ : Sl) (0 : Int) h).bind fun w13 =>
    some (w13.1, w13.2)
noncomputable def corbelref16_copied.T (k : Nat) : Tbl := tblOf []
noncomputable def corbelref16_copied.an (k : Nat) (p : Nat) : Option Ann := cond (Nat.beq p 58) (some (.pass [] (lrun [(0, .sl), (3, .sl), (4, (.int .i64))] none [(3, .sl)] 0 (fun a h => corbelref16_copied.l0 k k (a.1) (a.2.1) (a.2.2) h))))
  (none)
noncomputable def corbelref16_copied.body : Code := (Try.f86.body).getD .skip
noncomputable def corbelref16_copied.c58 : Code := cat corbelref16_copied.body [1, 1, 0, 1, 0, 0]
set_option maxRecDepth 100000 in
theorem corbelref16_copied.TS {C : FuncId → Bool} {X : CallF} (hX : XOk C X) (k : Nat) : TblS Try.prog C X (corbelref16_copied.T k) := by
  refine tblOf_sound ?_
  intro e he
  exact absurd he List.not_mem_nil
set_option maxRecDepth 100000 in
theorem corbelref16_copied.l0_pass {C : FuncId → Bool} {X : CallF} (hX : XOk C X) (k n : Nat) : PassS Try.prog C X 26 (.loop corbelref16_copied.c58) (lrun [(0, .sl), (3, .sl), (4, (.int .i64))] none [(3, .sl)] 0 (fun a h => corbelref16_copied.l0 k n (a.1) (a.2.1) (a.2.2) h)) :=
  loop_pass (ins := [(0, .sl), (3, .sl), (4, (.int .i64))]) (rets := none) (outs := [(3, .sl)]) (id := 0) (tbl := corbelref16_copied.T k) (an := corbelref16_copied.an k) (pb := 116) (corbelref16_copied.TS hX k) (fun n => (fun a h => corbelref16_copied.l0 k n (a.1) (a.2.1) (a.2.2) h)) (fun a h => rfl) (fun n a h => by kernel_rfl)
    (by
      have e : need (corbelref16_copied.an k) corbelref16_copied.c58 116 = [] := by kernel_rfl
      rw [e]; intro q hq; cases hq) n
set_option maxRecDepth 100000 in
theorem corbelref16_copied.eq (k : Nat) (a : RT [.sl]) (h : H) : (fun a h => corbelref16_copied.f k a h) a h = kfun Try.prog (corbelref16_copied.T k) (corbelref16_copied.an k) (RT [.sl] × H) Try.f86 (encL [.sl] a) h (fun vs h' => (decL [.sl] vs).bind fun x => some (x, h')) := by kernel_rfl
set_option maxRecDepth 100000 in
theorem corbelref16_copied.told {C : FuncId → Bool} {X : CallF} (hX : XOk C X) (k : Nat) : Den.Told Try.prog C X 86 [.sl] [.sl] (fun a h => corbelref16_copied.f k a h) :=
  told_of fun a h q e => fn_of (c := corbelref16_copied.body) (corbelref16_copied.TS hX k) Try.func86 (by kernel_rfl) (hX.no 86 _ h (by decide))
    (by
      have e : need (corbelref16_copied.an k) corbelref16_copied.body 1 = [(Code.loop corbelref16_copied.c58, lrun [(0, .sl), (3, .sl), (4, (.int .i64))] none [(3, .sl)] 0 (fun a h => corbelref16_copied.l0 k k (a.1) (a.2.1) (a.2.2) h))] := by kernel_rfl
      rw [e]; intro q hq
      rcases List.mem_cons.1 hq with rfl | hq
      · exact corbelref16_copied.l0_pass hX k k
      cases hq)
    ((corbelref16_copied.eq k a h).symm.trans e)
/-! ### corbel/corbelref16.put -/
noncomputable def corbelref16_put.l0 (k : Nat) (n : Nat) : Sl → (Option Addr) → Int → H → Option ((Int) × H) :=
  Nat.rec (motive := fun _ => Sl → (Option Addr) → Int → H → Option ((Int) × H)) (fun _ _ _ _ => none) (fun _ ih x1 x2 x3 h4 => (cond (decide (x3 < (Int.ofNat x1.n))) ((asP (ixs 5 x1.a x1.n x3)).bind fun p5 =>
    (asP (fadd 0 p5)).bind fun p6 =>
    (asT (ldc h4 p6)).bind fun s7 =>
    (asP (fadd 0 x2)).bind fun p8 =>
    (asT (ldc h4 p8)).bind fun s9 =>
    some (Op.bytesLess s7.toList s9.toList, h4, [], []))
      (some (false, h4, [], [])) : Option (Bool × H × LEs × EFs)).bind fun g10 =>
    cond g10.1
      (ih x1 x2 (wrapA .i64 (x3 + (1 : Int))) g10.2.1)
      (some (x3, g10.2.1))) n
theorem corbelref16_put.l0_zero (k : Nat) (x1 : Sl) (x2 : Option Addr) (x3 : Int) (h4 : H) : corbelref16_put.l0 k 0 x1 x2 x3 h4 = none := rfl
theorem corbelref16_put.l0_succ (k n : Nat) (x1 : Sl) (x2 : Option Addr) (x3 : Int) (h4 : H) : corbelref16_put.l0 k (n + 1) x1 x2 x3 h4 = ((cond (decide (x3 < (Int.ofNat x1.n))) ((asP (ixs 5 x1.a x1.n x3)).bind fun p5 =>
    (asP (fadd 0 p5)).bind fun p6 =>
    (asT (ldc h4 p6)).bind fun s7 =>
    (asP (fadd 0 x2)).bind fun p8 =>
    (asT (ldc h4 p8)).bind fun s9 =>
    some (Op.bytesLess s7.toList s9.toList, h4, [], []))
      (some (false, h4, [], [])) : Option (Bool × H × LEs × EFs)).bind fun g10 =>
    cond g10.1
      (corbelref16_put.l0 k n x1 x2 (wrapA .i64 (x3 + (1 : Int))) g10.2.1)
      (some (x3, g10.2.1))) := rfl
noncomputable def corbelref16_put.f (k : Nat) (a0 : Sl) (a1 : (ByteArray × ByteArray × Bool × Int × Sl)) (h : H) : Option ((Sl) × H) :=
  (corbelref16_put.l0 k k a0 (some ⟨h.next, 0, none⟩) (0 : Int) (newR h 58 5 [(Value.string a1.1), (Value.string a1.2.1), (Value.bool a1.2.2.1), (Value.int .i64 a1.2.2.2.1), (Value.slice a1.2.2.2.2.a a1.2.2.2.2.n a1.2.2.2.2.c)])).bind fun w11 =>
    (asS (subs 5 (Value.slice a0.a a0.n a0.c) none (some w11.1))).bind fun s12 =>
    (asS2 (apv 58 5 72 (Value.slice (some ⟨w11.2.next, 0, none⟩) 0 0) (Value.slice s12.a s12.n s12.c) (newR w11.2 58 5 []))).bind fun q13 =>
    (asSt [.str, .str, .bool, (.int .i64), .sl] (lda 5 q13.2 (some ⟨h.next, 0, none⟩))).bind fun s14 =>
    (asS2 (apv 58 5 72 (Value.slice q13.1.a q13.1.n q13.1.c) (Value.slice (some ⟨q13.2.next, 0, none⟩) 1 1) (newR q13.2 58 5 [(Value.string s14.1), (Value.string s14.2.1), (Value.bool s14.2.2.1), (Value.int .i64 s14.2.2.2.1), (Value.slice s14.2.2.2.2.a s14.2.2.2.2.n s14.2.2.2.2.c)]))).bind fun q15 =>
    (asS (subs 5 (Value.slice a0.a a0.n a0.c) (some w11.1) none)).bind fun s16 =>
    (asS2 (apv 58 5 72 (Value.slice q15.1.a q15.1.n q15.1.c) (Value.slice s16.a s16.n s16.c) q15.2)).bind fun q17 =>
    cond (same1 (newR w11.2 58 5 []) q13.2 (some (Value.pointer (some ⟨h.next, 0, none⟩))) && (true)) (some (q17.1, q17.2)) none
noncomputable def corbelref16_put.T (k : Nat) : Tbl := tblOf []
noncomputable def corbelref16_put.an (k : Nat) (p : Nat) : Option Ann := cond (Nat.beq p 28) (some (.pass [0, 3] (lrun [(0, .sl), (3, .ptr), (5, (.int .i64))] none [(5, (.int .i64))] 0 (fun a h => corbelref16_put.l0 k k (a.1) (a.2.1) (a.2.2) h))))
  (none)
noncomputable def corbelref16_put.body : Code := (Try.f108.body).getD .skip
noncomputable def corbelref16_put.c28 : Code := cat corbelref16_put.body [1, 1, 0, 0, 0]
set_option maxRecDepth 100000 in
theorem corbelref16_put.TS {C : FuncId → Bool} {X : CallF} (hX : XOk C X) (k : Nat) : TblS Try.prog C X (corbelref16_put.T k) := by
  refine tblOf_sound ?_
  intro e he
  exact absurd he List.not_mem_nil
set_option maxRecDepth 100000 in
theorem corbelref16_put.l0_pass {C : FuncId → Bool} {X : CallF} (hX : XOk C X) (k n : Nat) : PassS Try.prog C X 34 (.loop corbelref16_put.c28) (lrun [(0, .sl), (3, .ptr), (5, (.int .i64))] none [(5, (.int .i64))] 0 (fun a h => corbelref16_put.l0 k n (a.1) (a.2.1) (a.2.2) h)) :=
  loop_pass (ins := [(0, .sl), (3, .ptr), (5, (.int .i64))]) (rets := none) (outs := [(5, (.int .i64))]) (id := 0) (tbl := corbelref16_put.T k) (an := corbelref16_put.an k) (pb := 56) (corbelref16_put.TS hX k) (fun n => (fun a h => corbelref16_put.l0 k n (a.1) (a.2.1) (a.2.2) h)) (fun a h => rfl) (fun n a h => by kernel_rfl)
    (by
      have e : need (corbelref16_put.an k) corbelref16_put.c28 56 = [] := by kernel_rfl
      rw [e]; intro q hq; cases hq) n
set_option maxRecDepth 100000 in
theorem corbelref16_put.eq (k : Nat) (a : RT [.sl, (.st [.str, .str, .bool, (.int .i64), .sl])]) (h : H) : (fun a h => corbelref16_put.f k (a.1) (a.2) h) a h = kfun Try.prog (corbelref16_put.T k) (corbelref16_put.an k) (RT [.sl] × H) Try.f108 (encL [.sl, (.st [.str, .str, .bool, (.int .i64), .sl])] a) h (fun vs h' => (decL [.sl] vs).bind fun x => some (x, h')) := by kernel_rfl
set_option maxRecDepth 100000 in
theorem corbelref16_put.told {C : FuncId → Bool} {X : CallF} (hX : XOk C X) (k : Nat) : Den.Told Try.prog C X 108 [.sl, (.st [.str, .str, .bool, (.int .i64), .sl])] [.sl] (fun a h => corbelref16_put.f k (a.1) (a.2) h) :=
  told_of fun a h q e => fn_of (c := corbelref16_put.body) (corbelref16_put.TS hX k) Try.func108 (by kernel_rfl) (hX.no 108 _ h (by decide))
    (by
      have e : need (corbelref16_put.an k) corbelref16_put.body 1 = [(Code.loop corbelref16_put.c28, lrun [(0, .sl), (3, .ptr), (5, (.int .i64))] none [(5, (.int .i64))] 0 (fun a h => corbelref16_put.l0 k k (a.1) (a.2.1) (a.2.2) h))] := by kernel_rfl
      rw [e]; intro q hq
      rcases List.mem_cons.1 hq with rfl | hq
      · exact corbelref16_put.l0_pass hX k k
      cases hq)
    ((corbelref16_put.eq k a h).symm.trans e)
/-! ### corbel/corbelref16.Create -/
noncomputable def corbelref16_Create.f (k : Nat) (a0 : Sl) (a1 : ByteArray) (a2 : Int) (h : H) : Option ((Sl × Int) × H) :=
  (corbelref16_RightTree.f k a0 h).bind fun q1 =>
    (cond (!q1.1) (some (true, q1.2))
      ((corbelref16_IsName.f k a1 q1.2).bind fun q2 =>
    some (!q2.1, q2.2))).bind fun g3 =>
    (cond g3.1 (some (true, g3.2))
      ((corbelref16_RightSize.f k a2 g3.2).bind fun q4 =>
    some (!q4.1, q4.2))).bind fun g5 =>
    cond g5.1
      (some (((⟨none, 0, 0⟩ : Sl), (1 : Int)), g5.2))
      ((corbelref16_At.f k a0 a1 g5.2).bind fun q6 =>
    cond (decide (q6.1 ≥ (0 : Int)))
      (some (((⟨none, 0, 0⟩ : Sl), (11 : Int)), q6.2))
      (cond (decide ((Int.ofNat a0.n) ≥ (12 : Int)))
      (some (((⟨none, 0, 0⟩ : Sl), (6 : Int)), q6.2))
      ((corbelref16_Sized.f k (⟨none, 0, 0⟩ : Sl) a2 q6.2).bind fun q7 =>
    (corbelref16_copied.f k a0 q7.2).bind fun q8 =>
    (corbelref16_put.f k q8.1 (a1, (⟨#[]⟩ : ByteArray), false, a2, q7.1.1) q8.2).bind fun q9 =>
    some ((q9.1, (0 : Int)), q9.2))))
noncomputable def corbelref16_Create.T (k : Nat) : Tbl := tblOf [⟨48, anyArgs, wr [.sl] [.bool] (fun a h => corbelref16_RightTree.f k a h)⟩,
  ⟨66, anyArgs, wr [.str] [.bool] (fun a h => corbelref16_IsName.f k a h)⟩,
  ⟨70, anyArgs, wr [(.int .i64)] [.bool] (fun a h => corbelref16_RightSize.f k a h)⟩,
  ⟨57, anyArgs, wr [.sl, .str] [(.int .i64)] (fun a h => corbelref16_At.f k (a.1) (a.2) h)⟩,
  ⟨29, anyArgs, wr [.sl, (.int .i64)] [.sl, .sl] (fun a h => corbelref16_Sized.f k (a.1) (a.2) h)⟩,
  ⟨86, anyArgs, wr [.sl] [.sl] (fun a h => corbelref16_copied.f k a h)⟩,
  ⟨108, anyArgs, wr [.sl, (.st [.str, .str, .bool, (.int .i64), .sl])] [.sl] (fun a h => corbelref16_put.f k (a.1) (a.2) h)⟩]
noncomputable def corbelref16_Create.an (k : Nat) (p : Nat) : Option Ann := none
noncomputable def corbelref16_Create.body : Code := (Try.f82.body).getD .skip
set_option maxRecDepth 100000 in
theorem corbelref16_Create.TS {C : FuncId → Bool} {X : CallF} (hX : XOk C X) (k : Nat) : TblS Try.prog C X (corbelref16_Create.T k) := by
  refine tblOf_sound ?_
  intro e he
  rcases List.mem_cons.1 he with rfl | he
  · exact wr_told (corbelref16_RightTree.told hX k)
  rcases List.mem_cons.1 he with rfl | he
  · exact wr_told (corbelref16_IsName.told hX k)
  rcases List.mem_cons.1 he with rfl | he
  · exact wr_told (corbelref16_RightSize.told hX k)
  rcases List.mem_cons.1 he with rfl | he
  · exact wr_told (corbelref16_At.told hX k)
  rcases List.mem_cons.1 he with rfl | he
  · exact wr_told (corbelref16_Sized.told hX k)
  rcases List.mem_cons.1 he with rfl | he
  · exact wr_told (corbelref16_copied.told hX k)
  rcases List.mem_cons.1 he with rfl | he
  · exact wr_told (corbelref16_put.told hX k)
  exact absurd he List.not_mem_nil
set_option maxRecDepth 100000 in
theorem corbelref16_Create.eq (k : Nat) (a : RT [.sl, .str, (.int .i64)]) (h : H) : (fun a h => corbelref16_Create.f k (a.1) (a.2.1) (a.2.2) h) a h = kfun Try.prog (corbelref16_Create.T k) (corbelref16_Create.an k) (RT [.sl, (.int .i64)] × H) Try.f82 (encL [.sl, .str, (.int .i64)] a) h (fun vs h' => (decL [.sl, (.int .i64)] vs).bind fun x => some (x, h')) := by kernel_rfl
set_option maxRecDepth 100000 in
theorem corbelref16_Create.told {C : FuncId → Bool} {X : CallF} (hX : XOk C X) (k : Nat) : Den.Told Try.prog C X 82 [.sl, .str, (.int .i64)] [.sl, (.int .i64)] (fun a h => corbelref16_Create.f k (a.1) (a.2.1) (a.2.2) h) :=
  told_of fun a h q e => fn_of (c := corbelref16_Create.body) (corbelref16_Create.TS hX k) Try.func82 (by kernel_rfl) (hX.no 82 _ h (by decide))
    (by
      have e : need (corbelref16_Create.an k) corbelref16_Create.body 1 = [] := by kernel_rfl
      rw [e]; intro q hq; cases hq)
    ((corbelref16_Create.eq k a h).symm.trans e)
/-! ### corbel/corbelref16.branch -/
noncomputable def corbelref16_branch.f (k : Nat) (a0 : Sl) (a1 : ByteArray) (a2 : ByteArray) (a3 : Bool) (h : H) : Option ((Sl × Int) × H) :=
  (corbelref16_At.f k a0 a1 h).bind fun q1 =>
    (corbelref16_RightTree.f k a0 q1.2).bind fun q2 =>
    (cond (!q2.1) (some (true, q2.2))
      ((corbelref16_IsName.f k a2 q2.2).bind fun q3 =>
    some (!q3.1, q3.2))).bind fun g4 =>
    cond g4.1
      (some (((⟨none, 0, 0⟩ : Sl), (1 : Int)), g4.2))
      (cond (decide (q1.1 < (0 : Int)))
      (some (((⟨none, 0, 0⟩ : Sl), (7 : Int)), g4.2))
      ((asP (ixs 5 a0.a a0.n q1.1)).bind fun p5 =>
    (asP (fadd 2 p5)).bind fun p6 =>
    (asB (ldc g4.2 p6)).bind fun b7 =>
    cond (b7 == a3)
      (some (((⟨none, 0, 0⟩ : Sl), (10 : Int)), g4.2))
      ((corbelref16_At.f k a0 a2 g4.2).bind fun q8 =>
    cond (decide (q8.1 ≥ (0 : Int)))
      (some (((⟨none, 0, 0⟩ : Sl), (11 : Int)), q8.2))
      (cond (decide ((Int.ofNat a0.n) ≥ (12 : Int)))
      (some (((⟨none, 0, 0⟩ : Sl), (6 : Int)), q8.2))
      ((corbelref16_copied.f k a0 q8.2).bind fun q9 =>
    (asP (ixs 5 a0.a a0.n q1.1)).bind fun p10 =>
    (asP (fadd 3 p10)).bind fun p11 =>
    (asI .i64 (ldc q9.2 p11)).bind fun n12 =>
    (asP (ixs 5 a0.a a0.n q1.1)).bind fun p13 =>
    (asP (fadd 4 p13)).bind fun p14 =>
    (asS (ldc (newR q9.2 3 1 []) p14)).bind fun s15 =>
    (asS2 (apv 3 1 8 (Value.slice (some ⟨q9.2.next, 0, none⟩) 0 0) (Value.slice s15.a s15.n s15.c) (newR q9.2 3 1 []))).bind fun q16 =>
    (corbelref16_put.f k q9.1 (a2, a1, a3, n12, q16.1) q16.2).bind fun q17 =>
    cond (same1 q8.2 q9.2 (some (Value.pointer p11)) && (same1 (newR q9.2 3 1 []) q16.2 (some (Value.pointer p11)) && (same1 q8.2 q9.2 (some (Value.pointer p14)) && (true)))) (some ((q17.1, (0 : Int)), q17.2)) none)))))
noncomputable def corbelref16_branch.T (k : Nat) : Tbl := tblOf [⟨57, anyArgs, wr [.sl, .str] [(.int .i64)] (fun a h => corbelref16_At.f k (a.1) (a.2) h)⟩,
  ⟨48, anyArgs, wr [.sl] [.bool] (fun a h => corbelref16_RightTree.f k a h)⟩,
  ⟨66, anyArgs, wr [.str] [.bool] (fun a h => corbelref16_IsName.f k a h)⟩,
  ⟨86, anyArgs, wr [.sl] [.sl] (fun a h => corbelref16_copied.f k a h)⟩,
  ⟨108, anyArgs, wr [.sl, (.st [.str, .str, .bool, (.int .i64), .sl])] [.sl] (fun a h => corbelref16_put.f k (a.1) (a.2) h)⟩]
noncomputable def corbelref16_branch.an (k : Nat) (p : Nat) : Option Ann := none
noncomputable def corbelref16_branch.body : Code := (Try.f109.body).getD .skip
set_option maxRecDepth 100000 in
theorem corbelref16_branch.TS {C : FuncId → Bool} {X : CallF} (hX : XOk C X) (k : Nat) : TblS Try.prog C X (corbelref16_branch.T k) := by
  refine tblOf_sound ?_
  intro e he
  rcases List.mem_cons.1 he with rfl | he
  · exact wr_told (corbelref16_At.told hX k)
  rcases List.mem_cons.1 he with rfl | he
  · exact wr_told (corbelref16_RightTree.told hX k)
  rcases List.mem_cons.1 he with rfl | he
  · exact wr_told (corbelref16_IsName.told hX k)
  rcases List.mem_cons.1 he with rfl | he
  · exact wr_told (corbelref16_copied.told hX k)
  rcases List.mem_cons.1 he with rfl | he
  · exact wr_told (corbelref16_put.told hX k)
  exact absurd he List.not_mem_nil
set_option maxRecDepth 100000 in
theorem corbelref16_branch.eq (k : Nat) (a : RT [.sl, .str, .str, .bool]) (h : H) : (fun a h => corbelref16_branch.f k (a.1) (a.2.1) (a.2.2.1) (a.2.2.2) h) a h = kfun Try.prog (corbelref16_branch.T k) (corbelref16_branch.an k) (RT [.sl, (.int .i64)] × H) Try.f109 (encL [.sl, .str, .str, .bool] a) h (fun vs h' => (decL [.sl, (.int .i64)] vs).bind fun x => some (x, h')) := by kernel_rfl
set_option maxRecDepth 100000 in
theorem corbelref16_branch.told {C : FuncId → Bool} {X : CallF} (hX : XOk C X) (k : Nat) : Den.Told Try.prog C X 109 [.sl, .str, .str, .bool] [.sl, (.int .i64)] (fun a h => corbelref16_branch.f k (a.1) (a.2.1) (a.2.2.1) (a.2.2.2) h) :=
  told_of fun a h q e => fn_of (c := corbelref16_branch.body) (corbelref16_branch.TS hX k) Try.func109 (by kernel_rfl) (hX.no 109 _ h (by decide))
    (by
      have e : need (corbelref16_branch.an k) corbelref16_branch.body 1 = [] := by kernel_rfl
      rw [e]; intro q hq; cases hq)
    ((corbelref16_branch.eq k a h).symm.trans e)
/-! ### corbel/corbelref16.Snapshot -/
noncomputable def corbelref16_Snapshot.f (k : Nat) (a0 : Sl) (a1 : ByteArray) (a2 : ByteArray) (h : H) : Option ((Sl × Int) × H) :=
  (corbelref16_branch.f k a0 a1 a2 true h).bind fun q1 =>
    some ((q1.1.1, q1.1.2), q1.2)
noncomputable def corbelref16_Snapshot.T (k : Nat) : Tbl := tblOf [⟨109, anyArgs, wr [.sl, .str, .str, .bool] [.sl, (.int .i64)] (fun a h => corbelref16_branch.f k (a.1) (a.2.1) (a.2.2.1) (a.2.2.2) h)⟩]
noncomputable def corbelref16_Snapshot.an (k : Nat) (p : Nat) : Option Ann := none
noncomputable def corbelref16_Snapshot.body : Code := (Try.f83.body).getD .skip
set_option maxRecDepth 100000 in
theorem corbelref16_Snapshot.TS {C : FuncId → Bool} {X : CallF} (hX : XOk C X) (k : Nat) : TblS Try.prog C X (corbelref16_Snapshot.T k) := by
  refine tblOf_sound ?_
  intro e he
  rcases List.mem_cons.1 he with rfl | he
  · exact wr_told (corbelref16_branch.told hX k)
  exact absurd he List.not_mem_nil
set_option maxRecDepth 100000 in
theorem corbelref16_Snapshot.eq (k : Nat) (a : RT [.sl, .str, .str]) (h : H) : (fun a h => corbelref16_Snapshot.f k (a.1) (a.2.1) (a.2.2) h) a h = kfun Try.prog (corbelref16_Snapshot.T k) (corbelref16_Snapshot.an k) (RT [.sl, (.int .i64)] × H) Try.f83 (encL [.sl, .str, .str] a) h (fun vs h' => (decL [.sl, (.int .i64)] vs).bind fun x => some (x, h')) := by kernel_rfl
set_option maxRecDepth 100000 in
theorem corbelref16_Snapshot.told {C : FuncId → Bool} {X : CallF} (hX : XOk C X) (k : Nat) : Den.Told Try.prog C X 83 [.sl, .str, .str] [.sl, (.int .i64)] (fun a h => corbelref16_Snapshot.f k (a.1) (a.2.1) (a.2.2) h) :=
  told_of fun a h q e => fn_of (c := corbelref16_Snapshot.body) (corbelref16_Snapshot.TS hX k) Try.func83 (by kernel_rfl) (hX.no 83 _ h (by decide))
    (by
      have e : need (corbelref16_Snapshot.an k) corbelref16_Snapshot.body 1 = [] := by kernel_rfl
      rw [e]; intro q hq; cases hq)
    ((corbelref16_Snapshot.eq k a h).symm.trans e)
/-! ### corbel/corbelref16.Clone -/
noncomputable def corbelref16_Clone.f (k : Nat) (a0 : Sl) (a1 : ByteArray) (a2 : ByteArray) (h : H) : Option ((Sl × Int) × H) :=
  (corbelref16_branch.f k a0 a1 a2 false h).bind fun q1 =>
    some ((q1.1.1, q1.1.2), q1.2)
noncomputable def corbelref16_Clone.T (k : Nat) : Tbl := tblOf [⟨109, anyArgs, wr [.sl, .str, .str, .bool] [.sl, (.int .i64)] (fun a h => corbelref16_branch.f k (a.1) (a.2.1) (a.2.2.1) (a.2.2.2) h)⟩]
noncomputable def corbelref16_Clone.an (k : Nat) (p : Nat) : Option Ann := none
noncomputable def corbelref16_Clone.body : Code := (Try.f84.body).getD .skip
set_option maxRecDepth 100000 in
theorem corbelref16_Clone.TS {C : FuncId → Bool} {X : CallF} (hX : XOk C X) (k : Nat) : TblS Try.prog C X (corbelref16_Clone.T k) := by
  refine tblOf_sound ?_
  intro e he
  rcases List.mem_cons.1 he with rfl | he
  · exact wr_told (corbelref16_branch.told hX k)
  exact absurd he List.not_mem_nil
set_option maxRecDepth 100000 in
theorem corbelref16_Clone.eq (k : Nat) (a : RT [.sl, .str, .str]) (h : H) : (fun a h => corbelref16_Clone.f k (a.1) (a.2.1) (a.2.2) h) a h = kfun Try.prog (corbelref16_Clone.T k) (corbelref16_Clone.an k) (RT [.sl, (.int .i64)] × H) Try.f84 (encL [.sl, .str, .str] a) h (fun vs h' => (decL [.sl, (.int .i64)] vs).bind fun x => some (x, h')) := by kernel_rfl
set_option maxRecDepth 100000 in
theorem corbelref16_Clone.told {C : FuncId → Bool} {X : CallF} (hX : XOk C X) (k : Nat) : Den.Told Try.prog C X 84 [.sl, .str, .str] [.sl, (.int .i64)] (fun a h => corbelref16_Clone.f k (a.1) (a.2.1) (a.2.2) h) :=
  told_of fun a h q e => fn_of (c := corbelref16_Clone.body) (corbelref16_Clone.TS hX k) Try.func84 (by kernel_rfl) (hX.no 84 _ h (by decide))
    (by
      have e : need (corbelref16_Clone.an k) corbelref16_Clone.body 1 = [] := by kernel_rfl
      rw [e]; intro q hq; cases hq)
    ((corbelref16_Clone.eq k a h).symm.trans e)
/-! ### corbel/corbellaw19.of -/
noncomputable def corbellaw19_of.l0 (k : Nat) (n : Nat) : Sl → Sl → Int → H → Option ((Sl) × H) :=
  Nat.rec (motive := fun _ => Sl → Sl → Int → H → Option ((Sl) × H)) (fun _ _ _ _ => none) (fun _ ih x1 x2 x3 h4 => (cond (decide (x3 < (Int.ofNat x1.n))) (some (decide (x3 < (16 : Int)), h4))
      (some (false, h4))).bind fun g5 =>
    cond g5.1
      ((asP (ixs 5 x1.a x1.n x3)).bind fun p6 =>
    (asSt [(.int .i64), (.int .i64), (.int .i64), (.int .i64), (.int .i64)] (lda 5 g5.2 p6)).bind fun s7 =>
    (stv 5 (newR g5.2 113 5 [(Value.int .i64 (0 : Int)), (Value.int .i64 (0 : Int)), (Value.int .i64 (0 : Int)), (Value.int .i64 (0 : Int)), (Value.int .i64 (0 : Int))]) (some ⟨g5.2.next, 0, none⟩) [(Value.int .i64 s7.1), (Value.int .i64 s7.2.1), (Value.int .i64 s7.2.2.1), (Value.int .i64 s7.2.2.2.1), (Value.int .i64 s7.2.2.2.2)]).bind fun q8 =>
    (asI .i64 (ldc q8.2 (some ⟨g5.2.next, 0, none⟩))).bind fun n9 =>
    (corbelhand_Pick.f k n9 (6 : Int) q8.2).bind fun q10 =>
    (cond (q10.1 == (0 : Int))
      (some (q10.1 == (0 : Int), q10.2))
      ((cond (q10.1 == (1 : Int))
      (some (q10.1 == (1 : Int), q10.2))
      (some (q10.1 == (2 : Int), q10.2)) : Option ((Bool) × H)).bind fun j11 =>
    some (j11.1, j11.2)) : Option ((Bool) × H)).bind fun j12 =>
    (cond j12.1
      ((asI .i64 (ldc j12.2 (some ⟨g5.2.next, 2, none⟩))).bind fun n13 =>
    (corbelhand_Name.f k n13 j12.2).bind fun q14 =>
    (asI .i64 (ldc q14.2 (some ⟨g5.2.next, 3, none⟩))).bind fun n15 =>
    (corbelhand_Pick.f k n15 (33 : Int) q14.2).bind fun q16 =>
    (corbelref16_Create.f k x2 q14.1 (wrapA .i64 ((8 : Int) * q16.1)) q16.2).bind fun q17 =>
    cond (same1 j12.2 q14.2 (some (Value.pointer (some ⟨g5.2.next, 3, none⟩))) && (true)) (some ((q17.1.1, q17.1.2), q17.2)) none)
      ((cond (q10.1 == (3 : Int))
      (some (q10.1 == (3 : Int), j12.2))
      (some (q10.1 == (4 : Int), j12.2)) : Option ((Bool) × H)).bind fun j18 =>
    (cond j18.1
      ((asI .i64 (ldc j18.2 (some ⟨g5.2.next, 1, none⟩))).bind fun n19 =>
    (corbelhand_Name.f k n19 j18.2).bind fun q20 =>
    (asI .i64 (ldc q20.2 (some ⟨g5.2.next, 2, none⟩))).bind fun n21 =>
    (corbelhand_Name.f k n21 q20.2).bind fun q22 =>
    (corbelref16_Snapshot.f k x2 q20.1 q22.1 q22.2).bind fun q23 =>
    cond (same1 j18.2 q20.2 (some (Value.pointer (some ⟨g5.2.next, 2, none⟩))) && (true)) (some ((q23.1.1, q23.1.2), q23.2)) none)
      ((asI .i64 (ldc j18.2 (some ⟨g5.2.next, 1, none⟩))).bind fun n24 =>
    (corbelhand_Name.f k n24 j18.2).bind fun q25 =>
    (asI .i64 (ldc q25.2 (some ⟨g5.2.next, 2, none⟩))).bind fun n26 =>
    (corbelhand_Name.f k n26 q25.2).bind fun q27 =>
    (corbelref16_Clone.f k x2 q25.1 q27.1 q27.2).bind fun q28 =>
    cond (same1 j18.2 q25.2 (some (Value.pointer (some ⟨g5.2.next, 2, none⟩))) && (true)) (some ((q28.1.1, q28.1.2), q28.2)) none) : Option ((Sl × Int) × H)).bind fun j29 =>
    some ((j29.1.1, j29.1.2), j29.2)) : Option ((Sl × Int) × H)).bind fun j30 =>
    cond (j30.1.2 != (0 : Int))
      (ih x1 x2 (wrapA .i64 (x3 + (1 : Int))) j30.2)
      ((asI .i64 (ldc j30.2 (some ⟨g5.2.next, 4, none⟩))).bind fun n31 =>
    (corbelhand_Pick.f k n31 (Int.ofNat j30.1.1.n) j30.2).bind fun q32 =>
    (asP (ixs 5 j30.1.1.a j30.1.1.n q32.1)).bind fun p33 =>
    (asP (fadd 4 p33)).bind fun p34 =>
    (asS (ldc q32.2 p34)).bind fun s35 =>
    (cond (decide ((Int.ofNat s35.n) > (0 : Int)))
      ((asP (ixs 5 j30.1.1.a j30.1.1.n q32.1)).bind fun p36 =>
    (asP (fadd 4 p36)).bind fun p37 =>
    (asS (ldc q32.2 p37)).bind fun s38 =>
    (asI .i64 (ldc q32.2 (some ⟨g5.2.next, 4, none⟩))).bind fun n39 =>
    (asP (ixs 5 j30.1.1.a j30.1.1.n q32.1)).bind fun p40 =>
    (asP (fadd 4 p40)).bind fun p41 =>
    (asS (ldc q32.2 p41)).bind fun s42 =>
    (corbelhand_Pick.f k n39 (Int.ofNat s42.n) q32.2).bind fun q43 =>
    (asI .i64 (ldc q43.2 (some ⟨g5.2.next, 4, none⟩))).bind fun n44 =>
    (corbelhand_Pick.f k n44 (23 : Int) q43.2).bind fun q45 =>
    (asP (ixs 1 s38.a s38.n q43.1)).bind fun p46 =>
    (stv 1 q45.2 p46 [(Value.int .i64 (wrapA .i64 ((17 : Int) + q45.1)))]).bind fun q47 =>
    cond (same1 q32.2 q43.2 (some (Value.pointer p37)) && (same1 q43.2 q45.2 (some (Value.pointer p37)) && (same1 q32.2 q43.2 (some (Value.pointer (some ⟨g5.2.next, 4, none⟩))) && (true)))) (some ((), q47.2)) none)
      (some ((), q32.2)) : Option ((Unit) × H)).bind fun j48 =>
    ih x1 j30.1.1 (wrapA .i64 (x3 + (1 : Int))) j48.2))
      (some (x2, g5.2))) n
theorem corbellaw19_of.l0_zero (k : Nat) (x1 : Sl) (x2 : Sl) (x3 : Int) (h4 : H) : corbellaw19_of.l0 k 0 x1 x2 x3 h4 = none := rfl
theorem corbellaw19_of.l0_succ (k n : Nat) (x1 : Sl) (x2 : Sl) (x3 : Int) (h4 : H) : corbellaw19_of.l0 k (n + 1) x1 x2 x3 h4 = ((cond (decide (x3 < (Int.ofNat x1.n))) (some (decide (x3 < (16 : Int)), h4))
      (some (false, h4))).bind fun g5 =>
    cond g5.1
      ((asP (ixs 5 x1.a x1.n x3)).bind fun p6 =>
    (asSt [(.int .i64), (.int .i64), (.int .i64), (.int .i64), (.int .i64)] (lda 5 g5.2 p6)).bind fun s7 =>
    (stv 5 (newR g5.2 113 5 [(Value.int .i64 (0 : Int)), (Value.int .i64 (0 : Int)), (Value.int .i64 (0 : Int)), (Value.int .i64 (0 : Int)), (Value.int .i64 (0 : Int))]) (some ⟨g5.2.next, 0, none⟩) [(Value.int .i64 s7.1), (Value.int .i64 s7.2.1), (Value.int .i64 s7.2.2.1), (Value.int .i64 s7.2.2.2.1), (Value.int .i64 s7.2.2.2.2)]).bind fun q8 =>
    (asI .i64 (ldc q8.2 (some ⟨g5.2.next, 0, none⟩))).bind fun n9 =>
    (corbelhand_Pick.f k n9 (6 : Int) q8.2).bind fun q10 =>
    (cond (q10.1 == (0 : Int))
      (some (q10.1 == (0 : Int), q10.2))
      ((cond (q10.1 == (1 : Int))
      (some (q10.1 == (1 : Int), q10.2))
      (some (q10.1 == (2 : Int), q10.2)) : Option ((Bool) × H)).bind fun j11 =>
    some (j11.1, j11.2)) : Option ((Bool) × H)).bind fun j12 =>
    (cond j12.1
      ((asI .i64 (ldc j12.2 (some ⟨g5.2.next, 2, none⟩))).bind fun n13 =>
    (corbelhand_Name.f k n13 j12.2).bind fun q14 =>
    (asI .i64 (ldc q14.2 (some ⟨g5.2.next, 3, none⟩))).bind fun n15 =>
    (corbelhand_Pick.f k n15 (33 : Int) q14.2).bind fun q16 =>
    (corbelref16_Create.f k x2 q14.1 (wrapA .i64 ((8 : Int) * q16.1)) q16.2).bind fun q17 =>
    cond (same1 j12.2 q14.2 (some (Value.pointer (some ⟨g5.2.next, 3, none⟩))) && (true)) (some ((q17.1.1, q17.1.2), q17.2)) none)
      ((cond (q10.1 == (3 : Int))
      (some (q10.1 == (3 : Int), j12.2))
      (some (q10.1 == (4 : Int), j12.2)) : Option ((Bool) × H)).bind fun j18 =>
    (cond j18.1
      ((asI .i64 (ldc j18.2 (some ⟨g5.2.next, 1, none⟩))).bind fun n19 =>
    (corbelhand_Name.f k n19 j18.2).bind fun q20 =>
    (asI .i64 (ldc q20.2 (some ⟨g5.2.next, 2, none⟩))).bind fun n21 =>
    (corbelhand_Name.f k n21 q20.2).bind fun q22 =>
    (corbelref16_Snapshot.f k x2 q20.1 q22.1 q22.2).bind fun q23 =>
    cond (same1 j18.2 q20.2 (some (Value.pointer (some ⟨g5.2.next, 2, none⟩))) && (true)) (some ((q23.1.1, q23.1.2), q23.2)) none)
      ((asI .i64 (ldc j18.2 (some ⟨g5.2.next, 1, none⟩))).bind fun n24 =>
    (corbelhand_Name.f k n24 j18.2).bind fun q25 =>
    (asI .i64 (ldc q25.2 (some ⟨g5.2.next, 2, none⟩))).bind fun n26 =>
    (corbelhand_Name.f k n26 q25.2).bind fun q27 =>
    (corbelref16_Clone.f k x2 q25.1 q27.1 q27.2).bind fun q28 =>
    cond (same1 j18.2 q25.2 (some (Value.pointer (some ⟨g5.2.next, 2, none⟩))) && (true)) (some ((q28.1.1, q28.1.2), q28.2)) none) : Option ((Sl × Int) × H)).bind fun j29 =>
    some ((j29.1.1, j29.1.2), j29.2)) : Option ((Sl × Int) × H)).bind fun j30 =>
    cond (j30.1.2 != (0 : Int))
      (corbellaw19_of.l0 k n x1 x2 (wrapA .i64 (x3 + (1 : Int))) j30.2)
      ((asI .i64 (ldc j30.2 (some ⟨g5.2.next, 4, none⟩))).bind fun n31 =>
    (corbelhand_Pick.f k n31 (Int.ofNat j30.1.1.n) j30.2).bind fun q32 =>
    (asP (ixs 5 j30.1.1.a j30.1.1.n q32.1)).bind fun p33 =>
    (asP (fadd 4 p33)).bind fun p34 =>
    (asS (ldc q32.2 p34)).bind fun s35 =>
    (cond (decide ((Int.ofNat s35.n) > (0 : Int)))
      ((asP (ixs 5 j30.1.1.a j30.1.1.n q32.1)).bind fun p36 =>
    (asP (fadd 4 p36)).bind fun p37 =>
    (asS (ldc q32.2 p37)).bind fun s38 =>
    (asI .i64 (ldc q32.2 (some ⟨g5.2.next, 4, none⟩))).bind fun n39 =>
    (asP (ixs 5 j30.1.1.a j30.1.1.n q32.1)).bind fun p40 =>
    (asP (fadd 4 p40)).bind fun p41 =>
    (asS (ldc q32.2 p41)).bind fun s42 =>
    (corbelhand_Pick.f k n39 (Int.ofNat s42.n) q32.2).bind fun q43 =>
    (asI .i64 (ldc q43.2 (some ⟨g5.2.next, 4, none⟩))).bind fun n44 =>
    (corbelhand_Pick.f k n44 (23 : Int) q43.2).bind fun q45 =>
    (asP (ixs 1 s38.a s38.n q43.1)).bind fun p46 =>
    (stv 1 q45.2 p46 [(Value.int .i64 (wrapA .i64 ((17 : Int) + q45.1)))]).bind fun q47 =>
    cond (same1 q32.2 q43.2 (some (Value.pointer p37)) && (same1 q43.2 q45.2 (some (Value.pointer p37)) && (same1 q32.2 q43.2 (some (Value.pointer (some ⟨g5.2.next, 4, none⟩))) && (true)))) (some ((), q47.2)) none)
      (some ((), q32.2)) : Option ((Unit) × H)).bind fun j48 =>
    corbellaw19_of.l0 k n x1 j30.1.1 (wrapA .i64 (x3 + (1 : Int))) j48.2))
      (some (x2, g5.2))) := rfl
noncomputable def corbellaw19_of.f (k : Nat) (a0 : Sl) (h : H) : Option ((Sl) × H) :=
  (corbellaw19_of.l0 k k a0 (⟨none, 0, 0⟩ : Sl) (0 : Int) h).bind fun w49 =>
    some (w49.1, w49.2)
noncomputable def corbellaw19_of.T (k : Nat) : Tbl := tblOf [⟨19, anyArgs, wr [(.int .i64), (.int .i64)] [(.int .i64)] (fun a h => corbelhand_Pick.f k (a.1) (a.2) h)⟩,
  ⟨59, anyArgs, wr [(.int .i64)] [.str] (fun a h => corbelhand_Name.f k a h)⟩,
  ⟨82, anyArgs, wr [.sl, .str, (.int .i64)] [.sl, (.int .i64)] (fun a h => corbelref16_Create.f k (a.1) (a.2.1) (a.2.2) h)⟩,
  ⟨83, anyArgs, wr [.sl, .str, .str] [.sl, (.int .i64)] (fun a h => corbelref16_Snapshot.f k (a.1) (a.2.1) (a.2.2) h)⟩,
  ⟨84, anyArgs, wr [.sl, .str, .str] [.sl, (.int .i64)] (fun a h => corbelref16_Clone.f k (a.1) (a.2.1) (a.2.2) h)⟩]
noncomputable def corbellaw19_of.an (k : Nat) (p : Nat) : Option Ann := cond (Nat.beq p 58) (some (.pass [] (lrun [(0, .sl), (3, .sl), (4, (.int .i64))] none [(3, .sl)] 0 (fun a h => corbellaw19_of.l0 k k (a.1) (a.2.1) (a.2.2) h))))
  (cond (Nat.beq p 238847) (some (.join [0, 3, 4] none []))
  (cond (Nat.beq p 119413) (some (.join [0, 3, 4, 5] none [(6, .sl), (7, (.int .i64))]))
  (cond (Nat.beq p 477655) (some (.join [0, 3, 4, 5] none [(6, .sl), (7, (.int .i64))]))
  (cond (Nat.beq p 955309) (some (.join [0, 3, 4, 5] none [(53, .bool)]))
  (cond (Nat.beq p 238825) (some (.join [0, 3, 4, 5, 25] none [(37, .bool)]))
  (cond (Nat.beq p 955303) (some (.join [0, 3, 4, 5, 25] none [(37, .bool)]))
  (none)))))))
noncomputable def corbellaw19_of.body : Code := (Try.f43.body).getD .skip
noncomputable def corbellaw19_of.c58 : Code := cat corbellaw19_of.body [1, 1, 0, 1, 0, 0]
set_option maxRecDepth 100000 in
theorem corbellaw19_of.TS {C : FuncId → Bool} {X : CallF} (hX : XOk C X) (k : Nat) : TblS Try.prog C X (corbellaw19_of.T k) := by
  refine tblOf_sound ?_
  intro e he
  rcases List.mem_cons.1 he with rfl | he
  · exact wr_told (corbelhand_Pick.told hX k)
  rcases List.mem_cons.1 he with rfl | he
  · exact wr_told (corbelhand_Name.told hX k)
  rcases List.mem_cons.1 he with rfl | he
  · exact wr_told (corbelref16_Create.told hX k)
  rcases List.mem_cons.1 he with rfl | he
  · exact wr_told (corbelref16_Snapshot.told hX k)
  rcases List.mem_cons.1 he with rfl | he
  · exact wr_told (corbelref16_Clone.told hX k)
  exact absurd he List.not_mem_nil
set_option maxRecDepth 100000 in
theorem corbellaw19_of.l0_pass {C : FuncId → Bool} {X : CallF} (hX : XOk C X) (k n : Nat) : PassS Try.prog C X 102 (.loop corbellaw19_of.c58) (lrun [(0, .sl), (3, .sl), (4, (.int .i64))] none [(3, .sl)] 0 (fun a h => corbellaw19_of.l0 k n (a.1) (a.2.1) (a.2.2) h)) :=
  loop_pass (ins := [(0, .sl), (3, .sl), (4, (.int .i64))]) (rets := none) (outs := [(3, .sl)]) (id := 0) (tbl := corbellaw19_of.T k) (an := corbellaw19_of.an k) (pb := 116) (corbellaw19_of.TS hX k) (fun n => (fun a h => corbellaw19_of.l0 k n (a.1) (a.2.1) (a.2.2) h)) (fun a h => rfl) (fun n a h => by kernel_rfl)
    (by
      have e : need (corbellaw19_of.an k) corbellaw19_of.c58 116 = [] := by kernel_rfl
      rw [e]; intro q hq; cases hq) n
set_option maxRecDepth 100000 in
theorem corbellaw19_of.eq (k : Nat) (a : RT [.sl]) (h : H) : (fun a h => corbellaw19_of.f k a h) a h = kfun Try.prog (corbellaw19_of.T k) (corbellaw19_of.an k) (RT [.sl] × H) Try.f43 (encL [.sl] a) h (fun vs h' => (decL [.sl] vs).bind fun x => some (x, h')) := by kernel_rfl
set_option maxRecDepth 100000 in
theorem corbellaw19_of.told {C : FuncId → Bool} {X : CallF} (hX : XOk C X) (k : Nat) : Den.Told Try.prog C X 43 [.sl] [.sl] (fun a h => corbellaw19_of.f k a h) :=
  told_of fun a h q e => fn_of (c := corbellaw19_of.body) (corbellaw19_of.TS hX k) Try.func43 (by kernel_rfl) (hX.no 43 _ h (by decide))
    (by
      have e : need (corbellaw19_of.an k) corbellaw19_of.body 1 = [(Code.loop corbellaw19_of.c58, lrun [(0, .sl), (3, .sl), (4, (.int .i64))] none [(3, .sl)] 0 (fun a h => corbellaw19_of.l0 k k (a.1) (a.2.1) (a.2.2) h))] := by kernel_rfl
      rw [e]; intro q hq
      rcases List.mem_cons.1 hq with rfl | hq
      · exact corbellaw19_of.l0_pass hX k k
      cases hq)
    ((corbellaw19_of.eq k a h).symm.trans e)
/-! ### corbel/tree.IsName$1 -/
noncomputable def tree_IsName_1.f (k : Nat) (a0 : Int) (h : H) : Option ((Bool) × H) :=
  (cond (decide (a0 < (97 : Int))) (some (true, h))
      (some (decide (a0 > (122 : Int)), h))).bind fun g1 =>
    (cond g1.1 ((cond (decide (a0 < (48 : Int))) (some (true, g1.2))
      (some (decide (a0 > (57 : Int)), g1.2))).bind fun g2 =>
    some (g2.1, g2.2))
      (some (false, g1.2))).bind fun g3 =>
    some (g3.1, g3.2)
noncomputable def tree_IsName_1.T (k : Nat) : Tbl := tblOf []
noncomputable def tree_IsName_1.an (k : Nat) (p : Nat) : Option Ann := none
noncomputable def tree_IsName_1.body : Code := (Try.f102.body).getD .skip
set_option maxRecDepth 100000 in
theorem tree_IsName_1.TS {C : FuncId → Bool} {X : CallF} (hX : XOk C X) (k : Nat) : TblS Try.prog C X (tree_IsName_1.T k) := by
  refine tblOf_sound ?_
  intro e he
  exact absurd he List.not_mem_nil
set_option maxRecDepth 100000 in
theorem tree_IsName_1.eq (k : Nat) (a : RT [(.int .i32)]) (h : H) : (fun a h => tree_IsName_1.f k a h) a h = kfun Try.prog (tree_IsName_1.T k) (tree_IsName_1.an k) (RT [.bool] × H) Try.f102 (encL [(.int .i32)] a) h (fun vs h' => (decL [.bool] vs).bind fun x => some (x, h')) := by kernel_rfl
set_option maxRecDepth 100000 in
theorem tree_IsName_1.told {C : FuncId → Bool} {X : CallF} (hX : XOk C X) (k : Nat) : Den.Told Try.prog C X 102 [(.int .i32)] [.bool] (fun a h => tree_IsName_1.f k a h) :=
  told_of fun a h q e => fn_of (c := tree_IsName_1.body) (tree_IsName_1.TS hX k) Try.func102 (by kernel_rfl) (hX.no 102 _ h (by decide))
    (by
      have e : need (tree_IsName_1.an k) tree_IsName_1.body 1 = [] := by kernel_rfl
      rw [e]; intro q hq; cases hq)
    ((tree_IsName_1.eq k a h).symm.trans e)
/-! ### strings.indexFunc -/
noncomputable def strings_indexFunc_tree_IsName_1.l0 (k : Nat) (n : Nat) : Unit → Bool → (Option Addr) → H → Option (((Int) ⊕ (Unit)) × H) :=
  Nat.rec (motive := fun _ => Unit → Bool → (Option Addr) → H → Option (((Int) ⊕ (Unit)) × H)) (fun _ _ _ _ => none) (fun _ ih x1 x2 x3 h4 => (nxt h4 (some (Value.pointer x3))).bind fun q5 =>
    match q5 with
    | none => some (Sum.inr (), h4)
    | some r6 => (tree_IsName_1.f k r6.2.1 r6.2.2).bind fun q7 =>
    cond (q7.1 == x2)
      (some (Sum.inl (Int.ofNat r6.1), q7.2))
      (ih () x2 x3 q7.2)) n
theorem strings_indexFunc_tree_IsName_1.l0_zero (k : Nat) (x1 : Unit) (x2 : Bool) (x3 : Option Addr) (h4 : H) : strings_indexFunc_tree_IsName_1.l0 k 0 x1 x2 x3 h4 = none := rfl
theorem strings_indexFunc_tree_IsName_1.l0_succ (k n : Nat) (x1 : Unit) (x2 : Bool) (x3 : Option Addr) (h4 : H) : strings_indexFunc_tree_IsName_1.l0 k (n + 1) x1 x2 x3 h4 = ((nxt h4 (some (Value.pointer x3))).bind fun q5 =>
    match q5 with
    | none => some (Sum.inr (), h4)
    | some r6 => (tree_IsName_1.f k r6.2.1 r6.2.2).bind fun q7 =>
    cond (q7.1 == x2)
      (some (Sum.inl (Int.ofNat r6.1), q7.2))
      (strings_indexFunc_tree_IsName_1.l0 k n () x2 x3 q7.2)) := rfl
noncomputable def strings_indexFunc_tree_IsName_1.f (k : Nat) (a0 : ByteArray) (a1 : Unit) (a2 : Bool) (h : H) : Option ((Int) × H) :=
  (strings_indexFunc_tree_IsName_1.l0 k k () a2 (some ⟨h.next, 0, none⟩) (h.new (.iter a0 0 h.clock))).bind fun w8 =>
    match w8.1 with
    | .inl r9 => some (r9, w8.2)
    | .inr o10 => some ((-1 : Int), w8.2)
noncomputable def strings_indexFunc_tree_IsName_1.T (k : Nat) : Tbl := tblOf [⟨102, anyArgs, wr [(.int .i32)] [.bool] (fun a h => tree_IsName_1.f k a h)⟩]
noncomputable def strings_indexFunc_tree_IsName_1.an (k : Nat) (p : Nat) : Option Ann := cond (Nat.beq p 26) (some (.pass [] (lrun [(1, (.fn 102 0)), (2, .bool), (10, .ptr)] (some [(6, (.int .i64))]) [] 0 (fun a h => strings_indexFunc_tree_IsName_1.l0 k k (a.1) (a.2.1) (a.2.2) h))))
  (none)
noncomputable def strings_indexFunc_tree_IsName_1.body : Code := (Try.f120.body).getD .skip
noncomputable def strings_indexFunc_tree_IsName_1.c26 : Code := cat strings_indexFunc_tree_IsName_1.body [1, 0, 1, 0, 0]
set_option maxRecDepth 100000 in
theorem strings_indexFunc_tree_IsName_1.TS {C : FuncId → Bool} {X : CallF} (hX : XOk C X) (k : Nat) : TblS Try.prog C X (strings_indexFunc_tree_IsName_1.T k) := by
  refine tblOf_sound ?_
  intro e he
  rcases List.mem_cons.1 he with rfl | he
  · exact wr_told (tree_IsName_1.told hX k)
  exact absurd he List.not_mem_nil
set_option maxRecDepth 100000 in
theorem strings_indexFunc_tree_IsName_1.l0_pass {C : FuncId → Bool} {X : CallF} (hX : XOk C X) (k n : Nat) : PassS Try.prog C X 21 (.loop strings_indexFunc_tree_IsName_1.c26) (lrun [(1, (.fn 102 0)), (2, .bool), (10, .ptr)] (some [(6, (.int .i64))]) [] 0 (fun a h => strings_indexFunc_tree_IsName_1.l0 k n (a.1) (a.2.1) (a.2.2) h)) :=
  loop_pass (ins := [(1, (.fn 102 0)), (2, .bool), (10, .ptr)]) (rets := (some [(6, (.int .i64))])) (outs := []) (id := 0) (tbl := strings_indexFunc_tree_IsName_1.T k) (an := strings_indexFunc_tree_IsName_1.an k) (pb := 52) (strings_indexFunc_tree_IsName_1.TS hX k) (fun n => (fun a h => strings_indexFunc_tree_IsName_1.l0 k n (a.1) (a.2.1) (a.2.2) h)) (fun a h => rfl) (fun n a h => by kernel_rfl)
    (by
      have e : need (strings_indexFunc_tree_IsName_1.an k) strings_indexFunc_tree_IsName_1.c26 52 = [] := by kernel_rfl
      rw [e]; intro q hq; cases hq) n
set_option maxRecDepth 100000 in
theorem strings_indexFunc_tree_IsName_1.eq (k : Nat) (a : RT [.str, (.fn 102 0), .bool]) (h : H) : (fun a h => strings_indexFunc_tree_IsName_1.f k (a.1) (a.2.1) (a.2.2) h) a h = kfun Try.prog (strings_indexFunc_tree_IsName_1.T k) (strings_indexFunc_tree_IsName_1.an k) (RT [(.int .i64)] × H) Try.f120 (encL [.str, (.fn 102 0), .bool] a) h (fun vs h' => (decL [(.int .i64)] vs).bind fun x => some (x, h')) := by kernel_rfl
set_option maxRecDepth 100000 in
theorem strings_indexFunc_tree_IsName_1.told {C : FuncId → Bool} {X : CallF} (hX : XOk C X) (k : Nat) : Den.Told Try.prog C X 120 [.str, (.fn 102 0), .bool] [(.int .i64)] (fun a h => strings_indexFunc_tree_IsName_1.f k (a.1) (a.2.1) (a.2.2) h) :=
  told_of fun a h q e => fn_of (c := strings_indexFunc_tree_IsName_1.body) (strings_indexFunc_tree_IsName_1.TS hX k) Try.func120 (by kernel_rfl) (hX.no 120 _ h (by decide))
    (by
      have e : need (strings_indexFunc_tree_IsName_1.an k) strings_indexFunc_tree_IsName_1.body 1 = [(Code.loop strings_indexFunc_tree_IsName_1.c26, lrun [(1, (.fn 102 0)), (2, .bool), (10, .ptr)] (some [(6, (.int .i64))]) [] 0 (fun a h => strings_indexFunc_tree_IsName_1.l0 k k (a.1) (a.2.1) (a.2.2) h))] := by kernel_rfl
      rw [e]; intro q hq
      rcases List.mem_cons.1 hq with rfl | hq
      · exact strings_indexFunc_tree_IsName_1.l0_pass hX k k
      cases hq)
    ((strings_indexFunc_tree_IsName_1.eq k a h).symm.trans e)
/-! ### strings.IndexFunc -/
noncomputable def strings_IndexFunc_tree_IsName_1.f (k : Nat) (a0 : ByteArray) (a1 : Unit) (h : H) : Option ((Int) × H) :=
  (strings_indexFunc_tree_IsName_1.f k a0 () true h).bind fun q1 =>
    some (q1.1, q1.2)
noncomputable def strings_IndexFunc_tree_IsName_1.T (k : Nat) : Tbl := tblOf [⟨120, chkF [(1, 102)], wr [.str, (.fn 102 0), .bool] [(.int .i64)] (fun a h => strings_indexFunc_tree_IsName_1.f k (a.1) (a.2.1) (a.2.2) h)⟩]
noncomputable def strings_IndexFunc_tree_IsName_1.an (k : Nat) (p : Nat) : Option Ann := none
noncomputable def strings_IndexFunc_tree_IsName_1.body : Code := (Try.f116.body).getD .skip
set_option maxRecDepth 100000 in
theorem strings_IndexFunc_tree_IsName_1.TS {C : FuncId → Bool} {X : CallF} (hX : XOk C X) (k : Nat) : TblS Try.prog C X (strings_IndexFunc_tree_IsName_1.T k) := by
  refine tblOf_sound ?_
  intro e he
  rcases List.mem_cons.1 he with rfl | he
  · exact wr_told (strings_indexFunc_tree_IsName_1.told hX k)
  exact absurd he List.not_mem_nil
set_option maxRecDepth 100000 in
theorem strings_IndexFunc_tree_IsName_1.eq (k : Nat) (a : RT [.str, (.fn 102 0)]) (h : H) : (fun a h => strings_IndexFunc_tree_IsName_1.f k (a.1) (a.2) h) a h = kfun Try.prog (strings_IndexFunc_tree_IsName_1.T k) (strings_IndexFunc_tree_IsName_1.an k) (RT [(.int .i64)] × H) Try.f116 (encL [.str, (.fn 102 0)] a) h (fun vs h' => (decL [(.int .i64)] vs).bind fun x => some (x, h')) := by kernel_rfl
set_option maxRecDepth 100000 in
theorem strings_IndexFunc_tree_IsName_1.told {C : FuncId → Bool} {X : CallF} (hX : XOk C X) (k : Nat) : Den.Told Try.prog C X 116 [.str, (.fn 102 0)] [(.int .i64)] (fun a h => strings_IndexFunc_tree_IsName_1.f k (a.1) (a.2) h) :=
  told_of fun a h q e => fn_of (c := strings_IndexFunc_tree_IsName_1.body) (strings_IndexFunc_tree_IsName_1.TS hX k) Try.func116 (by kernel_rfl) (hX.no 116 _ h (by decide))
    (by
      have e : need (strings_IndexFunc_tree_IsName_1.an k) strings_IndexFunc_tree_IsName_1.body 1 = [] := by kernel_rfl
      rw [e]; intro q hq; cases hq)
    ((strings_IndexFunc_tree_IsName_1.eq k a h).symm.trans e)
/-! ### strings.ContainsFunc -/
noncomputable def strings_ContainsFunc_tree_IsName_1.f (k : Nat) (a0 : ByteArray) (a1 : Unit) (h : H) : Option ((Bool) × H) :=
  (strings_IndexFunc_tree_IsName_1.f k a0 () h).bind fun q1 =>
    some (decide (q1.1 ≥ (0 : Int)), q1.2)
noncomputable def strings_ContainsFunc_tree_IsName_1.T (k : Nat) : Tbl := tblOf [⟨116, chkF [(1, 102)], wr [.str, (.fn 102 0)] [(.int .i64)] (fun a h => strings_IndexFunc_tree_IsName_1.f k (a.1) (a.2) h)⟩]
noncomputable def strings_ContainsFunc_tree_IsName_1.an (k : Nat) (p : Nat) : Option Ann := none
noncomputable def strings_ContainsFunc_tree_IsName_1.body : Code := (Try.f101.body).getD .skip
set_option maxRecDepth 100000 in
theorem strings_ContainsFunc_tree_IsName_1.TS {C : FuncId → Bool} {X : CallF} (hX : XOk C X) (k : Nat) : TblS Try.prog C X (strings_ContainsFunc_tree_IsName_1.T k) := by
  refine tblOf_sound ?_
  intro e he
  rcases List.mem_cons.1 he with rfl | he
  · exact wr_told (strings_IndexFunc_tree_IsName_1.told hX k)
  exact absurd he List.not_mem_nil
set_option maxRecDepth 100000 in
theorem strings_ContainsFunc_tree_IsName_1.eq (k : Nat) (a : RT [.str, (.fn 102 0)]) (h : H) : (fun a h => strings_ContainsFunc_tree_IsName_1.f k (a.1) (a.2) h) a h = kfun Try.prog (strings_ContainsFunc_tree_IsName_1.T k) (strings_ContainsFunc_tree_IsName_1.an k) (RT [.bool] × H) Try.f101 (encL [.str, (.fn 102 0)] a) h (fun vs h' => (decL [.bool] vs).bind fun x => some (x, h')) := by kernel_rfl
set_option maxRecDepth 100000 in
theorem strings_ContainsFunc_tree_IsName_1.told {C : FuncId → Bool} {X : CallF} (hX : XOk C X) (k : Nat) : Den.Told Try.prog C X 101 [.str, (.fn 102 0)] [.bool] (fun a h => strings_ContainsFunc_tree_IsName_1.f k (a.1) (a.2) h) :=
  told_of fun a h q e => fn_of (c := strings_ContainsFunc_tree_IsName_1.body) (strings_ContainsFunc_tree_IsName_1.TS hX k) Try.func101 (by kernel_rfl) (hX.no 101 _ h (by decide))
    (by
      have e : need (strings_ContainsFunc_tree_IsName_1.an k) strings_ContainsFunc_tree_IsName_1.body 1 = [] := by kernel_rfl
      rw [e]; intro q hq; cases hq)
    ((strings_ContainsFunc_tree_IsName_1.eq k a h).symm.trans e)
/-! ### corbel/tree.IsName -/
noncomputable def tree_IsName.f (k : Nat) (a0 : ByteArray) (h : H) : Option ((Bool) × H) :=
  (strings_ContainsFunc_tree_IsName_1.f k a0 () h).bind fun q1 =>
    (cond (decide ((Int.ofNat a0.data.toList.length) ≥ (1 : Int))) (some (decide ((Int.ofNat a0.data.toList.length) ≤ (8 : Int)), q1.2))
      (some (false, q1.2))).bind fun g2 =>
    (cond g2.1 (some (!q1.1, g2.2))
      (some (false, g2.2))).bind fun g3 =>
    some (g3.1, g3.2)
noncomputable def tree_IsName.T (k : Nat) : Tbl := tblOf [⟨101, chkF [(1, 102)], wr [.str, (.fn 102 0)] [.bool] (fun a h => strings_ContainsFunc_tree_IsName_1.f k (a.1) (a.2) h)⟩]
noncomputable def tree_IsName.an (k : Nat) (p : Nat) : Option Ann := none
noncomputable def tree_IsName.body : Code := (Try.f65.body).getD .skip
set_option maxRecDepth 100000 in
theorem tree_IsName.TS {C : FuncId → Bool} {X : CallF} (hX : XOk C X) (k : Nat) : TblS Try.prog C X (tree_IsName.T k) := by
  refine tblOf_sound ?_
  intro e he
  rcases List.mem_cons.1 he with rfl | he
  · exact wr_told (strings_ContainsFunc_tree_IsName_1.told hX k)
  exact absurd he List.not_mem_nil
set_option maxRecDepth 100000 in
theorem tree_IsName.eq (k : Nat) (a : RT [.str]) (h : H) : (fun a h => tree_IsName.f k a h) a h = kfun Try.prog (tree_IsName.T k) (tree_IsName.an k) (RT [.bool] × H) Try.f65 (encL [.str] a) h (fun vs h' => (decL [.bool] vs).bind fun x => some (x, h')) := by kernel_rfl
set_option maxRecDepth 100000 in
theorem tree_IsName.told {C : FuncId → Bool} {X : CallF} (hX : XOk C X) (k : Nat) : Den.Told Try.prog C X 65 [.str] [.bool] (fun a h => tree_IsName.f k a h) :=
  told_of fun a h q e => fn_of (c := tree_IsName.body) (tree_IsName.TS hX k) Try.func65 (by kernel_rfl) (hX.no 65 _ h (by decide))
    (by
      have e : need (tree_IsName.an k) tree_IsName.body 1 = [] := by kernel_rfl
      rw [e]; intro q hq; cases hq)
    ((tree_IsName.eq k a h).symm.trans e)
/-! ### corbel/extent.Right$1 -/
noncomputable def extent_Right_1.f (k : Nat) (a0 : Int) (h : H) : Option ((Bool) × H) :=
  (cond (a0 != (0 : Int)) ((cond (decide (a0 < (17 : Int))) (some (true, h))
      (some (decide (a0 ≥ (40 : Int)), h))).bind fun g1 =>
    some (g1.1, g1.2))
      (some (false, h))).bind fun g2 =>
    some (g2.1, g2.2)
noncomputable def extent_Right_1.T (k : Nat) : Tbl := tblOf []
noncomputable def extent_Right_1.an (k : Nat) (p : Nat) : Option Ann := none
noncomputable def extent_Right_1.body : Code := (Try.f72.body).getD .skip
set_option maxRecDepth 100000 in
theorem extent_Right_1.TS {C : FuncId → Bool} {X : CallF} (hX : XOk C X) (k : Nat) : TblS Try.prog C X (extent_Right_1.T k) := by
  refine tblOf_sound ?_
  intro e he
  exact absurd he List.not_mem_nil
set_option maxRecDepth 100000 in
theorem extent_Right_1.eq (k : Nat) (a : RT [(.int .i64)]) (h : H) : (fun a h => extent_Right_1.f k a h) a h = kfun Try.prog (extent_Right_1.T k) (extent_Right_1.an k) (RT [.bool] × H) Try.f72 (encL [(.int .i64)] a) h (fun vs h' => (decL [.bool] vs).bind fun x => some (x, h')) := by kernel_rfl
set_option maxRecDepth 100000 in
theorem extent_Right_1.told {C : FuncId → Bool} {X : CallF} (hX : XOk C X) (k : Nat) : Den.Told Try.prog C X 72 [(.int .i64)] [.bool] (fun a h => extent_Right_1.f k a h) :=
  told_of fun a h q e => fn_of (c := extent_Right_1.body) (extent_Right_1.TS hX k) Try.func72 (by kernel_rfl) (hX.no 72 _ h (by decide))
    (by
      have e : need (extent_Right_1.an k) extent_Right_1.body 1 = [] := by kernel_rfl
      rw [e]; intro q hq; cases hq)
    ((extent_Right_1.eq k a h).symm.trans e)
/-! ### slices.IndexFunc[[]int,int] -/
noncomputable def slices_IndexFunc_int_int_extent_Right_1.l0 (k : Nat) (n : Nat) : Sl → Unit → Int → Int → H → Option (((Int) ⊕ (Unit)) × H) :=
  Nat.rec (motive := fun _ => Sl → Unit → Int → Int → H → Option (((Int) ⊕ (Unit)) × H)) (fun _ _ _ _ _ => none) (fun _ ih x1 x2 x3 x4 h5 => cond (decide (x4 < x3))
      ((asP (ixs 1 x1.a x1.n x4)).bind fun p6 =>
    (asI .i64 (ldc h5 p6)).bind fun n7 =>
    (extent_Right_1.f k n7 h5).bind fun q8 =>
    cond q8.1
      (some (Sum.inl x4, q8.2))
      (ih x1 () x3 (wrapA .i64 (x4 + (1 : Int))) q8.2))
      (some (Sum.inr (), h5))) n
theorem slices_IndexFunc_int_int_extent_Right_1.l0_zero (k : Nat) (x1 : Sl) (x2 : Unit) (x3 : Int) (x4 : Int) (h5 : H) : slices_IndexFunc_int_int_extent_Right_1.l0 k 0 x1 x2 x3 x4 h5 = none := rfl
theorem slices_IndexFunc_int_int_extent_Right_1.l0_succ (k n : Nat) (x1 : Sl) (x2 : Unit) (x3 : Int) (x4 : Int) (h5 : H) : slices_IndexFunc_int_int_extent_Right_1.l0 k (n + 1) x1 x2 x3 x4 h5 = (cond (decide (x4 < x3))
      ((asP (ixs 1 x1.a x1.n x4)).bind fun p6 =>
    (asI .i64 (ldc h5 p6)).bind fun n7 =>
    (extent_Right_1.f k n7 h5).bind fun q8 =>
    cond q8.1
      (some (Sum.inl x4, q8.2))
      (slices_IndexFunc_int_int_extent_Right_1.l0 k n x1 () x3 (wrapA .i64 (x4 + (1 : Int))) q8.2))
      (some (Sum.inr (), h5))) := rfl
noncomputable def slices_IndexFunc_int_int_extent_Right_1.f (k : Nat) (a0 : Sl) (a1 : Unit) (h : H) : Option ((Int) × H) :=
  (slices_IndexFunc_int_int_extent_Right_1.l0 k k a0 () (Int.ofNat a0.n) (0 : Int) h).bind fun w9 =>
    match w9.1 with
    | .inl r10 => some (r10, w9.2)
    | .inr o11 => some ((-1 : Int), w9.2)
noncomputable def slices_IndexFunc_int_int_extent_Right_1.T (k : Nat) : Tbl := tblOf [⟨72, anyArgs, wr [(.int .i64)] [.bool] (fun a h => extent_Right_1.f k a h)⟩]
noncomputable def slices_IndexFunc_int_int_extent_Right_1.an (k : Nat) (p : Nat) : Option Ann := cond (Nat.beq p 26) (some (.pass [] (lrun [(0, .sl), (1, (.fn 72 0)), (7, (.int .i64)), (8, (.int .i64))] (some [(4, (.int .i64))]) [] 0 (fun a h => slices_IndexFunc_int_int_extent_Right_1.l0 k k (a.1) (a.2.1) (a.2.2.1) (a.2.2.2) h))))
  (none)
noncomputable def slices_IndexFunc_int_int_extent_Right_1.body : Code := (Try.f104.body).getD .skip
noncomputable def slices_IndexFunc_int_int_extent_Right_1.c26 : Code := cat slices_IndexFunc_int_int_extent_Right_1.body [1, 0, 1, 0, 0]
set_option maxRecDepth 100000 in
theorem slices_IndexFunc_int_int_extent_Right_1.TS {C : FuncId → Bool} {X : CallF} (hX : XOk C X) (k : Nat) : TblS Try.prog C X (slices_IndexFunc_int_int_extent_Right_1.T k) := by
  refine tblOf_sound ?_
  intro e he
  rcases List.mem_cons.1 he with rfl | he
  · exact wr_told (extent_Right_1.told hX k)
  exact absurd he List.not_mem_nil
set_option maxRecDepth 100000 in
theorem slices_IndexFunc_int_int_extent_Right_1.l0_pass {C : FuncId → Bool} {X : CallF} (hX : XOk C X) (k n : Nat) : PassS Try.prog C X 19 (.loop slices_IndexFunc_int_int_extent_Right_1.c26) (lrun [(0, .sl), (1, (.fn 72 0)), (7, (.int .i64)), (8, (.int .i64))] (some [(4, (.int .i64))]) [] 0 (fun a h => slices_IndexFunc_int_int_extent_Right_1.l0 k n (a.1) (a.2.1) (a.2.2.1) (a.2.2.2) h)) :=
  loop_pass (ins := [(0, .sl), (1, (.fn 72 0)), (7, (.int .i64)), (8, (.int .i64))]) (rets := (some [(4, (.int .i64))])) (outs := []) (id := 0) (tbl := slices_IndexFunc_int_int_extent_Right_1.T k) (an := slices_IndexFunc_int_int_extent_Right_1.an k) (pb := 52) (slices_IndexFunc_int_int_extent_Right_1.TS hX k) (fun n => (fun a h => slices_IndexFunc_int_int_extent_Right_1.l0 k n (a.1) (a.2.1) (a.2.2.1) (a.2.2.2) h)) (fun a h => rfl) (fun n a h => by kernel_rfl)
    (by
      have e : need (slices_IndexFunc_int_int_extent_Right_1.an k) slices_IndexFunc_int_int_extent_Right_1.c26 52 = [] := by kernel_rfl
      rw [e]; intro q hq; cases hq) n
set_option maxRecDepth 100000 in
theorem slices_IndexFunc_int_int_extent_Right_1.eq (k : Nat) (a : RT [.sl, (.fn 72 0)]) (h : H) : (fun a h => slices_IndexFunc_int_int_extent_Right_1.f k (a.1) (a.2) h) a h = kfun Try.prog (slices_IndexFunc_int_int_extent_Right_1.T k) (slices_IndexFunc_int_int_extent_Right_1.an k) (RT [(.int .i64)] × H) Try.f104 (encL [.sl, (.fn 72 0)] a) h (fun vs h' => (decL [(.int .i64)] vs).bind fun x => some (x, h')) := by kernel_rfl
set_option maxRecDepth 100000 in
theorem slices_IndexFunc_int_int_extent_Right_1.told {C : FuncId → Bool} {X : CallF} (hX : XOk C X) (k : Nat) : Den.Told Try.prog C X 104 [.sl, (.fn 72 0)] [(.int .i64)] (fun a h => slices_IndexFunc_int_int_extent_Right_1.f k (a.1) (a.2) h) :=
  told_of fun a h q e => fn_of (c := slices_IndexFunc_int_int_extent_Right_1.body) (slices_IndexFunc_int_int_extent_Right_1.TS hX k) Try.func104 (by kernel_rfl) (hX.no 104 _ h (by decide))
    (by
      have e : need (slices_IndexFunc_int_int_extent_Right_1.an k) slices_IndexFunc_int_int_extent_Right_1.body 1 = [(Code.loop slices_IndexFunc_int_int_extent_Right_1.c26, lrun [(0, .sl), (1, (.fn 72 0)), (7, (.int .i64)), (8, (.int .i64))] (some [(4, (.int .i64))]) [] 0 (fun a h => slices_IndexFunc_int_int_extent_Right_1.l0 k k (a.1) (a.2.1) (a.2.2.1) (a.2.2.2) h))] := by kernel_rfl
      rw [e]; intro q hq
      rcases List.mem_cons.1 hq with rfl | hq
      · exact slices_IndexFunc_int_int_extent_Right_1.l0_pass hX k k
      cases hq)
    ((slices_IndexFunc_int_int_extent_Right_1.eq k a h).symm.trans e)
/-! ### slices.ContainsFunc[[]int,int] -/
noncomputable def slices_ContainsFunc_int_int_extent_Right_1.f (k : Nat) (a0 : Sl) (a1 : Unit) (h : H) : Option ((Bool) × H) :=
  (slices_IndexFunc_int_int_extent_Right_1.f k a0 () h).bind fun q1 =>
    some (decide (q1.1 ≥ (0 : Int)), q1.2)
noncomputable def slices_ContainsFunc_int_int_extent_Right_1.T (k : Nat) : Tbl := tblOf [⟨104, chkF [(1, 72)], wr [.sl, (.fn 72 0)] [(.int .i64)] (fun a h => slices_IndexFunc_int_int_extent_Right_1.f k (a.1) (a.2) h)⟩]
noncomputable def slices_ContainsFunc_int_int_extent_Right_1.an (k : Nat) (p : Nat) : Option Ann := none
noncomputable def slices_ContainsFunc_int_int_extent_Right_1.body : Code := (Try.f71.body).getD .skip
set_option maxRecDepth 100000 in
theorem slices_ContainsFunc_int_int_extent_Right_1.TS {C : FuncId → Bool} {X : CallF} (hX : XOk C X) (k : Nat) : TblS Try.prog C X (slices_ContainsFunc_int_int_extent_Right_1.T k) := by
  refine tblOf_sound ?_
  intro e he
  rcases List.mem_cons.1 he with rfl | he
  · exact wr_told (slices_IndexFunc_int_int_extent_Right_1.told hX k)
  exact absurd he List.not_mem_nil
set_option maxRecDepth 100000 in
theorem slices_ContainsFunc_int_int_extent_Right_1.eq (k : Nat) (a : RT [.sl, (.fn 72 0)]) (h : H) : (fun a h => slices_ContainsFunc_int_int_extent_Right_1.f k (a.1) (a.2) h) a h = kfun Try.prog (slices_ContainsFunc_int_int_extent_Right_1.T k) (slices_ContainsFunc_int_int_extent_Right_1.an k) (RT [.bool] × H) Try.f71 (encL [.sl, (.fn 72 0)] a) h (fun vs h' => (decL [.bool] vs).bind fun x => some (x, h')) := by kernel_rfl
set_option maxRecDepth 100000 in
theorem slices_ContainsFunc_int_int_extent_Right_1.told {C : FuncId → Bool} {X : CallF} (hX : XOk C X) (k : Nat) : Den.Told Try.prog C X 71 [.sl, (.fn 72 0)] [.bool] (fun a h => slices_ContainsFunc_int_int_extent_Right_1.f k (a.1) (a.2) h) :=
  told_of fun a h q e => fn_of (c := slices_ContainsFunc_int_int_extent_Right_1.body) (slices_ContainsFunc_int_int_extent_Right_1.TS hX k) Try.func71 (by kernel_rfl) (hX.no 71 _ h (by decide))
    (by
      have e : need (slices_ContainsFunc_int_int_extent_Right_1.an k) slices_ContainsFunc_int_int_extent_Right_1.body 1 = [] := by kernel_rfl
      rw [e]; intro q hq; cases hq)
    ((slices_ContainsFunc_int_int_extent_Right_1.eq k a h).symm.trans e)
/-! ### corbel/extent.sized -/
noncomputable def extent_sized.f (k : Nat) (a0 : Int) (h : H) : Option ((Bool) × H) :=
  (cond (decide (a0 ≥ (0 : Int))) (some (decide (a0 ≤ (256 : Int)), h))
      (some (false, h))).bind fun g1 =>
    (cond g1.1 (some ((a0.tmod (8 : Int)) == (0 : Int), g1.2))
      (some (false, g1.2))).bind fun g2 =>
    some (g2.1, g2.2)
noncomputable def extent_sized.T (k : Nat) : Tbl := tblOf []
noncomputable def extent_sized.an (k : Nat) (p : Nat) : Option Ann := none
noncomputable def extent_sized.body : Code := (Try.f69.body).getD .skip
set_option maxRecDepth 100000 in
theorem extent_sized.TS {C : FuncId → Bool} {X : CallF} (hX : XOk C X) (k : Nat) : TblS Try.prog C X (extent_sized.T k) := by
  refine tblOf_sound ?_
  intro e he
  exact absurd he List.not_mem_nil
set_option maxRecDepth 100000 in
theorem extent_sized.eq (k : Nat) (a : RT [(.int .i64)]) (h : H) : (fun a h => extent_sized.f k a h) a h = kfun Try.prog (extent_sized.T k) (extent_sized.an k) (RT [.bool] × H) Try.f69 (encL [(.int .i64)] a) h (fun vs h' => (decL [.bool] vs).bind fun x => some (x, h')) := by kernel_rfl
set_option maxRecDepth 100000 in
theorem extent_sized.told {C : FuncId → Bool} {X : CallF} (hX : XOk C X) (k : Nat) : Den.Told Try.prog C X 69 [(.int .i64)] [.bool] (fun a h => extent_sized.f k a h) :=
  told_of fun a h q e => fn_of (c := extent_sized.body) (extent_sized.TS hX k) Try.func69 (by kernel_rfl) (hX.no 69 _ h (by decide))
    (by
      have e : need (extent_sized.an k) extent_sized.body 1 = [] := by kernel_rfl
      rw [e]; intro q hq; cases hq)
    ((extent_sized.eq k a h).symm.trans e)
/-! ### corbel/extent.Right -/
noncomputable def extent_Right.f (k : Nat) (a0 : Int) (a1 : Sl) (h : H) : Option ((Bool) × H) :=
  (slices_ContainsFunc_int_int_extent_Right_1.f k a1 () h).bind fun q1 =>
    (extent_sized.f k a0 q1.2).bind fun q2 =>
    (cond q2.1 (some ((Int.ofNat a1.n) == (wrapA .i64 (a0.tdiv (8 : Int))), q2.2))
      (some (false, q2.2))).bind fun g3 =>
    (cond g3.1 (some (!q1.1, g3.2))
      (some (false, g3.2))).bind fun g4 =>
    some (g4.1, g4.2)
noncomputable def extent_Right.T (k : Nat) : Tbl := tblOf [⟨71, chkF [(1, 72)], wr [.sl, (.fn 72 0)] [.bool] (fun a h => slices_ContainsFunc_int_int_extent_Right_1.f k (a.1) (a.2) h)⟩,
  ⟨69, anyArgs, wr [(.int .i64)] [.bool] (fun a h => extent_sized.f k a h)⟩]
noncomputable def extent_Right.an (k : Nat) (p : Nat) : Option Ann := none
noncomputable def extent_Right.body : Code := (Try.f30.body).getD .skip
set_option maxRecDepth 100000 in
theorem extent_Right.TS {C : FuncId → Bool} {X : CallF} (hX : XOk C X) (k : Nat) : TblS Try.prog C X (extent_Right.T k) := by
  refine tblOf_sound ?_
  intro e he
  rcases List.mem_cons.1 he with rfl | he
  · exact wr_told (slices_ContainsFunc_int_int_extent_Right_1.told hX k)
  rcases List.mem_cons.1 he with rfl | he
  · exact wr_told (extent_sized.told hX k)
  exact absurd he List.not_mem_nil
set_option maxRecDepth 100000 in
theorem extent_Right.eq (k : Nat) (a : RT [(.int .i64), .sl]) (h : H) : (fun a h => extent_Right.f k (a.1) (a.2) h) a h = kfun Try.prog (extent_Right.T k) (extent_Right.an k) (RT [.bool] × H) Try.f30 (encL [(.int .i64), .sl] a) h (fun vs h' => (decL [.bool] vs).bind fun x => some (x, h')) := by kernel_rfl
set_option maxRecDepth 100000 in
theorem extent_Right.told {C : FuncId → Bool} {X : CallF} (hX : XOk C X) (k : Nat) : Den.Told Try.prog C X 30 [(.int .i64), .sl] [.bool] (fun a h => extent_Right.f k (a.1) (a.2) h) :=
  told_of fun a h q e => fn_of (c := extent_Right.body) (extent_Right.TS hX k) Try.func30 (by kernel_rfl) (hX.no 30 _ h (by decide))
    (by
      have e : need (extent_Right.an k) extent_Right.body 1 = [] := by kernel_rfl
      rw [e]; intro q hq; cases hq)
    ((extent_Right.eq k a h).symm.trans e)
/-! ### corbel/tree.at$1 -/
noncomputable def tree_at_1.f (k : Nat) (a0 : (ByteArray × ByteArray × Bool × Int × Sl)) (a1 : ByteArray) (h : H) : Option ((Int) × H) :=
  (asT (ldc (newR h 58 5 [(Value.string a0.1), (Value.string a0.2.1), (Value.bool a0.2.2.1), (Value.int .i64 a0.2.2.2.1), (Value.slice a0.2.2.2.2.a a0.2.2.2.2.n a0.2.2.2.2.c)]) (some ⟨h.next, 0, none⟩))).bind fun s1 =>
    some ((cmpB s1 a1), (newR h 58 5 [(Value.string a0.1), (Value.string a0.2.1), (Value.bool a0.2.2.1), (Value.int .i64 a0.2.2.2.1), (Value.slice a0.2.2.2.2.a a0.2.2.2.2.n a0.2.2.2.2.c)]))
noncomputable def tree_at_1.T (k : Nat) : Tbl := tblOf [⟨114, anyArgs, cmpW⟩]
noncomputable def tree_at_1.an (k : Nat) (p : Nat) : Option Ann := none
noncomputable def tree_at_1.body : Code := (Try.f113.body).getD .skip
set_option maxRecDepth 100000 in
theorem tree_at_1.TS {C : FuncId → Bool} {X : CallF} (hX : XOk C X) (hK114 : CmpOk X 114) (k : Nat) : TblS Try.prog C X (tree_at_1.T k) := by
  refine tblOf_sound ?_
  intro e he
  rcases List.mem_cons.1 he with rfl | he
  · exact cmpW_told hK114
  exact absurd he List.not_mem_nil
set_option maxRecDepth 100000 in
theorem tree_at_1.eq (k : Nat) (a : RT [(.st [.str, .str, .bool, (.int .i64), .sl]), .str]) (h : H) : (fun a h => tree_at_1.f k (a.1) (a.2) h) a h = kfun Try.prog (tree_at_1.T k) (tree_at_1.an k) (RT [(.int .i64)] × H) Try.f113 (encL [(.st [.str, .str, .bool, (.int .i64), .sl]), .str] a) h (fun vs h' => (decL [(.int .i64)] vs).bind fun x => some (x, h')) := by kernel_rfl
set_option maxRecDepth 100000 in
theorem tree_at_1.told {C : FuncId → Bool} {X : CallF} (hX : XOk C X) (hK114 : CmpOk X 114) (k : Nat) : Den.Told Try.prog C X 113 [(.st [.str, .str, .bool, (.int .i64), .sl]), .str] [(.int .i64)] (fun a h => tree_at_1.f k (a.1) (a.2) h) :=
  told_of fun a h q e => fn_of (c := tree_at_1.body) (tree_at_1.TS hX hK114 k) Try.func113 (by kernel_rfl) (hX.no 113 _ h (by decide))
    (by
      have e : need (tree_at_1.an k) tree_at_1.body 1 = [] := by kernel_rfl
      rw [e]; intro q hq; cases hq)
    ((tree_at_1.eq k a h).symm.trans e)
/-! ### slices.BinarySearchFunc[[]corbel/api.Volume,corbel/api.Volume,string] -/
noncomputable def slices_BinarySearchFunc_api_Volume_api_Volume_string_tree_at_1.l0 (k : Nat) (n : Nat) : Sl → ByteArray → Unit → Int → Int → Int → H → Option ((Int) × H) :=
  Nat.rec (motive := fun _ => Sl → ByteArray → Unit → Int → Int → Int → H → Option ((Int) × H)) (fun _ _ _ _ _ _ _ => none) (fun _ ih x1 x2 x3 x4 x5 x6 h7 => cond (decide (x5 < x6))
      ((asP (ixs 5 x1.a x1.n (wrapA .i64 ((wrapA .u64 (wrapA .i64 (x5 + x6))).fdiv (2 ^ 1))))).bind fun p8 =>
    (asSt [.str, .str, .bool, (.int .i64), .sl] (lda 5 h7 p8)).bind fun s9 =>
    (tree_at_1.f k (s9.1, s9.2.1, s9.2.2.1, s9.2.2.2.1, s9.2.2.2.2) x2 h7).bind fun q10 =>
    (cond (decide (q10.1 < (0 : Int)))
      (some ((wrapA .i64 ((wrapA .i64 ((wrapA .u64 (wrapA .i64 (x5 + x6))).fdiv (2 ^ 1))) + (1 : Int)), x6), q10.2))
      (some ((x5, wrapA .i64 ((wrapA .u64 (wrapA .i64 (x5 + x6))).fdiv (2 ^ 1))), q10.2)) : Option ((Int × Int) × H)).bind fun j11 =>
    ih x1 x2 () x4 j11.1.1 j11.1.2 j11.2)
      (some (x5, h7))) n
theorem slices_BinarySearchFunc_api_Volume_api_Volume_string_tree_at_1.l0_zero (k : Nat) (x1 : Sl) (x2 : ByteArray) (x3 : Unit) (x4 : Int) (x5 : Int) (x6 : Int) (h7 : H) : slices_BinarySearchFunc_api_Volume_api_Volume_string_tree_at_1.l0 k 0 x1 x2 x3 x4 x5 x6 h7 = none := rfl
theorem slices_BinarySearchFunc_api_Volume_api_Volume_string_tree_at_1.l0_succ (k n : Nat) (x1 : Sl) (x2 : ByteArray) (x3 : Unit) (x4 : Int) (x5 : Int) (x6 : Int) (h7 : H) : slices_BinarySearchFunc_api_Volume_api_Volume_string_tree_at_1.l0 k (n + 1) x1 x2 x3 x4 x5 x6 h7 = (cond (decide (x5 < x6))
      ((asP (ixs 5 x1.a x1.n (wrapA .i64 ((wrapA .u64 (wrapA .i64 (x5 + x6))).fdiv (2 ^ 1))))).bind fun p8 =>
    (asSt [.str, .str, .bool, (.int .i64), .sl] (lda 5 h7 p8)).bind fun s9 =>
    (tree_at_1.f k (s9.1, s9.2.1, s9.2.2.1, s9.2.2.2.1, s9.2.2.2.2) x2 h7).bind fun q10 =>
    (cond (decide (q10.1 < (0 : Int)))
      (some ((wrapA .i64 ((wrapA .i64 ((wrapA .u64 (wrapA .i64 (x5 + x6))).fdiv (2 ^ 1))) + (1 : Int)), x6), q10.2))
      (some ((x5, wrapA .i64 ((wrapA .u64 (wrapA .i64 (x5 + x6))).fdiv (2 ^ 1))), q10.2)) : Option ((Int × Int) × H)).bind fun j11 =>
    slices_BinarySearchFunc_api_Volume_api_Volume_string_tree_at_1.l0 k n x1 x2 () x4 j11.1.1 j11.1.2 j11.2)
      (some (x5, h7))) := rfl
noncomputable def slices_BinarySearchFunc_api_Volume_api_Volume_string_tree_at_1.f (k : Nat) (a0 : Sl) (a1 : ByteArray) (a2 : Unit) (h : H) : Option ((Int × Bool) × H) :=
  (slices_BinarySearchFunc_api_Volume_api_Volume_string_tree_at_1.l0 k k a0 a1 () (Int.ofNat a0.n) (0 : Int) (Int.ofNat a0.n) h).bind fun w12 =>
    (cond (decide (w12.1 < (Int.ofNat a0.n))) ((asP (ixs 5 a0.a a0.n w12.1)).bind fun p13 =>
    (asSt [.str, .str, .bool, (.int .i64), .sl] (lda 5 w12.2 p13)).bind fun s14 =>
    (tree_at_1.f k (s14.1, s14.2.1, s14.2.2.1, s14.2.2.2.1, s14.2.2.2.2) a1 w12.2).bind fun q15 =>
    some (q15.1 == (0 : Int), q15.2))
      (some (false, w12.2))).bind fun g16 =>
    some ((w12.1, g16.1), g16.2)
noncomputable def slices_BinarySearchFunc_api_Volume_api_Volume_string_tree_at_1.T (k : Nat) : Tbl := tblOf [⟨113, anyArgs, wr [(.st [.str, .str, .bool, (.int .i64), .sl]), .str] [(.int .i64)] (fun a h => tree_at_1.f k (a.1) (a.2) h)⟩]
noncomputable def slices_BinarySearchFunc_api_Volume_api_Volume_string_tree_at_1.an (k : Nat) (p : Nat) : Option Ann := cond (Nat.beq p 60) (some (.pass [0, 1, 2, 8] (lrun [(0, .sl), (1, .str), (2, (.fn 113 0)), (8, (.int .i64)), (9, (.int .i64)), (10, (.int .i64))] none [(9, (.int .i64))] 0 (fun a h => slices_BinarySearchFunc_api_Volume_api_Volume_string_tree_at_1.l0 k k (a.1) (a.2.1) (a.2.2.1) (a.2.2.2.1) (a.2.2.2.2.1) (a.2.2.2.2.2) h))))
  (cond (Nat.beq p 1931) (some (.join [0, 1, 2, 8] none [(9, (.int .i64)), (10, (.int .i64))]))
  (none))
noncomputable def slices_BinarySearchFunc_api_Volume_api_Volume_string_tree_at_1.body : Code := (Try.f112.body).getD .skip
noncomputable def slices_BinarySearchFunc_api_Volume_api_Volume_string_tree_at_1.c60 : Code := cat slices_BinarySearchFunc_api_Volume_api_Volume_string_tree_at_1.body [1, 1, 1, 0, 0, 0]
set_option maxRecDepth 100000 in
theorem slices_BinarySearchFunc_api_Volume_api_Volume_string_tree_at_1.TS {C : FuncId → Bool} {X : CallF} (hX : XOk C X) (hK114 : CmpOk X 114) (k : Nat) : TblS Try.prog C X (slices_BinarySearchFunc_api_Volume_api_Volume_string_tree_at_1.T k) := by
  refine tblOf_sound ?_
  intro e he
  rcases List.mem_cons.1 he with rfl | he
  · exact wr_told (tree_at_1.told hX hK114 k)
  exact absurd he List.not_mem_nil
set_option maxRecDepth 100000 in
theorem slices_BinarySearchFunc_api_Volume_api_Volume_string_tree_at_1.l0_pass {C : FuncId → Bool} {X : CallF} (hX : XOk C X) (hK114 : CmpOk X 114) (k n : Nat) : PassS Try.prog C X 49 (.loop slices_BinarySearchFunc_api_Volume_api_Volume_string_tree_at_1.c60) (lrun [(0, .sl), (1, .str), (2, (.fn 113 0)), (8, (.int .i64)), (9, (.int .i64)), (10, (.int .i64))] none [(9, (.int .i64))] 0 (fun a h => slices_BinarySearchFunc_api_Volume_api_Volume_string_tree_at_1.l0 k n (a.1) (a.2.1) (a.2.2.1) (a.2.2.2.1) (a.2.2.2.2.1) (a.2.2.2.2.2) h)) :=
  loop_pass (ins := [(0, .sl), (1, .str), (2, (.fn 113 0)), (8, (.int .i64)), (9, (.int .i64)), (10, (.int .i64))]) (rets := none) (outs := [(9, (.int .i64))]) (id := 0) (tbl := slices_BinarySearchFunc_api_Volume_api_Volume_string_tree_at_1.T k) (an := slices_BinarySearchFunc_api_Volume_api_Volume_string_tree_at_1.an k) (pb := 120) (slices_BinarySearchFunc_api_Volume_api_Volume_string_tree_at_1.TS hX hK114 k) (fun n => (fun a h => slices_BinarySearchFunc_api_Volume_api_Volume_string_tree_at_1.l0 k n (a.1) (a.2.1) (a.2.2.1) (a.2.2.2.1) (a.2.2.2.2.1) (a.2.2.2.2.2) h)) (fun a h => rfl) (fun n a h => by kernel_rfl)
    (by
      have e : need (slices_BinarySearchFunc_api_Volume_api_Volume_string_tree_at_1.an k) slices_BinarySearchFunc_api_Volume_api_Volume_string_tree_at_1.c60 120 = [] := by kernel_rfl
      rw [e]; intro q hq; cases hq) n
set_option maxRecDepth 100000 in
theorem slices_BinarySearchFunc_api_Volume_api_Volume_string_tree_at_1.eq (k : Nat) (a : RT [.sl, .str, (.fn 113 0)]) (h : H) : (fun a h => slices_BinarySearchFunc_api_Volume_api_Volume_string_tree_at_1.f k (a.1) (a.2.1) (a.2.2) h) a h = kfun Try.prog (slices_BinarySearchFunc_api_Volume_api_Volume_string_tree_at_1.T k) (slices_BinarySearchFunc_api_Volume_api_Volume_string_tree_at_1.an k) (RT [(.int .i64), .bool] × H) Try.f112 (encL [.sl, .str, (.fn 113 0)] a) h (fun vs h' => (decL [(.int .i64), .bool] vs).bind fun x => some (x, h')) := by kernel_rfl
set_option maxRecDepth 100000 in
theorem slices_BinarySearchFunc_api_Volume_api_Volume_string_tree_at_1.told {C : FuncId → Bool} {X : CallF} (hX : XOk C X) (hK114 : CmpOk X 114) (k : Nat) : Den.Told Try.prog C X 112 [.sl, .str, (.fn 113 0)] [(.int .i64), .bool] (fun a h => slices_BinarySearchFunc_api_Volume_api_Volume_string_tree_at_1.f k (a.1) (a.2.1) (a.2.2) h) :=
  told_of fun a h q e => fn_of (c := slices_BinarySearchFunc_api_Volume_api_Volume_string_tree_at_1.body) (slices_BinarySearchFunc_api_Volume_api_Volume_string_tree_at_1.TS hX hK114 k) Try.func112 (by kernel_rfl) (hX.no 112 _ h (by decide))
    (by
      have e : need (slices_BinarySearchFunc_api_Volume_api_Volume_string_tree_at_1.an k) slices_BinarySearchFunc_api_Volume_api_Volume_string_tree_at_1.body 1 = [(Code.loop slices_BinarySearchFunc_api_Volume_api_Volume_string_tree_at_1.c60, lrun [(0, .sl), (1, .str), (2, (.fn 113 0)), (8, (.int .i64)), (9, (.int .i64)), (10, (.int .i64))] none [(9, (.int .i64))] 0 (fun a h => slices_BinarySearchFunc_api_Volume_api_Volume_string_tree_at_1.l0 k k (a.1) (a.2.1) (a.2.2.1) (a.2.2.2.1) (a.2.2.2.2.1) (a.2.2.2.2.2) h))] := by kernel_rfl
      rw [e]; intro q hq
      rcases List.mem_cons.1 hq with rfl | hq
      · exact slices_BinarySearchFunc_api_Volume_api_Volume_string_tree_at_1.l0_pass hX hK114 k k
      cases hq)
    ((slices_BinarySearchFunc_api_Volume_api_Volume_string_tree_at_1.eq k a h).symm.trans e)
/-! ### corbel/tree.at -/
noncomputable def tree_at.f (k : Nat) (a0 : Sl) (a1 : ByteArray) (h : H) : Option ((Int × Bool) × H) :=
  (slices_BinarySearchFunc_api_Volume_api_Volume_string_tree_at_1.f k a0 a1 () h).bind fun q1 =>
    some ((q1.1.1, q1.1.2), q1.2)
noncomputable def tree_at.T (k : Nat) : Tbl := tblOf [⟨112, chkF [(2, 113)], wr [.sl, .str, (.fn 113 0)] [(.int .i64), .bool] (fun a h => slices_BinarySearchFunc_api_Volume_api_Volume_string_tree_at_1.f k (a.1) (a.2.1) (a.2.2) h)⟩]
noncomputable def tree_at.an (k : Nat) (p : Nat) : Option Ann := none
noncomputable def tree_at.body : Code := (Try.f92.body).getD .skip
set_option maxRecDepth 100000 in
theorem tree_at.TS {C : FuncId → Bool} {X : CallF} (hX : XOk C X) (hK114 : CmpOk X 114) (k : Nat) : TblS Try.prog C X (tree_at.T k) := by
  refine tblOf_sound ?_
  intro e he
  rcases List.mem_cons.1 he with rfl | he
  · exact wr_told (slices_BinarySearchFunc_api_Volume_api_Volume_string_tree_at_1.told hX hK114 k)
  exact absurd he List.not_mem_nil
set_option maxRecDepth 100000 in
theorem tree_at.eq (k : Nat) (a : RT [.sl, .str]) (h : H) : (fun a h => tree_at.f k (a.1) (a.2) h) a h = kfun Try.prog (tree_at.T k) (tree_at.an k) (RT [(.int .i64), .bool] × H) Try.f92 (encL [.sl, .str] a) h (fun vs h' => (decL [(.int .i64), .bool] vs).bind fun x => some (x, h')) := by kernel_rfl
set_option maxRecDepth 100000 in
theorem tree_at.told {C : FuncId → Bool} {X : CallF} (hX : XOk C X) (hK114 : CmpOk X 114) (k : Nat) : Den.Told Try.prog C X 92 [.sl, .str] [(.int .i64), .bool] (fun a h => tree_at.f k (a.1) (a.2) h) :=
  told_of fun a h q e => fn_of (c := tree_at.body) (tree_at.TS hX hK114 k) Try.func92 (by kernel_rfl) (hX.no 92 _ h (by decide))
    (by
      have e : need (tree_at.an k) tree_at.body 1 = [] := by kernel_rfl
      rw [e]; intro q hq; cases hq)
    ((tree_at.eq k a h).symm.trans e)
/-! ### corbel/tree.parented -/
noncomputable def tree_parented.f (k : Nat) (a0 : Sl) (a1 : (ByteArray × ByteArray × Bool × Int × Sl)) (h : H) : Option ((Bool) × H) :=
  (asT (ldc (newR h 58 5 [(Value.string a1.1), (Value.string a1.2.1), (Value.bool a1.2.2.1), (Value.int .i64 a1.2.2.2.1), (Value.slice a1.2.2.2.2.a a1.2.2.2.2.n a1.2.2.2.2.c)]) (some ⟨h.next, 1, none⟩))).bind fun s1 =>
    cond (s1.toList == (⟨#[]⟩ : ByteArray).toList)
      (some (true, (newR h 58 5 [(Value.string a1.1), (Value.string a1.2.1), (Value.bool a1.2.2.1), (Value.int .i64 a1.2.2.2.1), (Value.slice a1.2.2.2.2.a a1.2.2.2.2.n a1.2.2.2.2.c)])))
      ((asT (ldc (newR h 58 5 [(Value.string a1.1), (Value.string a1.2.1), (Value.bool a1.2.2.1), (Value.int .i64 a1.2.2.2.1), (Value.slice a1.2.2.2.2.a a1.2.2.2.2.n a1.2.2.2.2.c)]) (some ⟨h.next, 1, none⟩))).bind fun s2 =>
    (tree_at.f k a0 s2 (newR h 58 5 [(Value.string a1.1), (Value.string a1.2.1), (Value.bool a1.2.2.1), (Value.int .i64 a1.2.2.2.1), (Value.slice a1.2.2.2.2.a a1.2.2.2.2.n a1.2.2.2.2.c)])).bind fun q3 =>
    (cond q3.1.2 ((asT (ldc q3.2 (some ⟨h.next, 1, none⟩))).bind fun s4 =>
    (asT (ldc q3.2 (some ⟨h.next, 0, none⟩))).bind fun s5 =>
    some (!(s4.toList == s5.toList), q3.2, [], []))
      (some (false, q3.2, [], [])) : Option (Bool × H × LEs × EFs)).bind fun g6 =>
    (cond g6.1 ((asP (ixs 5 a0.a a0.n q3.1.1)).bind fun p7 =>
    (asP (fadd 2 p7)).bind fun p8 =>
    (asB (ldc g6.2.1 p8)).bind fun b9 =>
    (asB (ldc g6.2.1 (some ⟨h.next, 2, none⟩))).bind fun b10 =>
    some (!(b9 == b10), g6.2.1, [], []))
      (some (false, g6.2.1, [], [])) : Option (Bool × H × LEs × EFs)).bind fun g11 =>
    some (g11.1, g11.2.1))
noncomputable def tree_parented.T (k : Nat) : Tbl := tblOf [⟨92, anyArgs, wr [.sl, .str] [(.int .i64), .bool] (fun a h => tree_at.f k (a.1) (a.2) h)⟩]
noncomputable def tree_parented.an (k : Nat) (p : Nat) : Option Ann := none
noncomputable def tree_parented.body : Code := (Try.f94.body).getD .skip
set_option maxRecDepth 100000 in
theorem tree_parented.TS {C : FuncId → Bool} {X : CallF} (hX : XOk C X) (hK114 : CmpOk X 114) (k : Nat) : TblS Try.prog C X (tree_parented.T k) := by
  refine tblOf_sound ?_
  intro e he
  rcases List.mem_cons.1 he with rfl | he
  · exact wr_told (tree_at.told hX hK114 k)
  exact absurd he List.not_mem_nil
set_option maxRecDepth 100000 in
theorem tree_parented.eq (k : Nat) (a : RT [.sl, (.st [.str, .str, .bool, (.int .i64), .sl])]) (h : H) : (fun a h => tree_parented.f k (a.1) (a.2) h) a h = kfun Try.prog (tree_parented.T k) (tree_parented.an k) (RT [.bool] × H) Try.f94 (encL [.sl, (.st [.str, .str, .bool, (.int .i64), .sl])] a) h (fun vs h' => (decL [.bool] vs).bind fun x => some (x, h')) := by kernel_rfl
set_option maxRecDepth 100000 in
theorem tree_parented.told {C : FuncId → Bool} {X : CallF} (hX : XOk C X) (hK114 : CmpOk X 114) (k : Nat) : Den.Told Try.prog C X 94 [.sl, (.st [.str, .str, .bool, (.int .i64), .sl])] [.bool] (fun a h => tree_parented.f k (a.1) (a.2) h) :=
  told_of fun a h q e => fn_of (c := tree_parented.body) (tree_parented.TS hX hK114 k) Try.func94 (by kernel_rfl) (hX.no 94 _ h (by decide))
    (by
      have e : need (tree_parented.an k) tree_parented.body 1 = [] := by kernel_rfl
      rw [e]; intro q hq; cases hq)
    ((tree_parented.eq k a h).symm.trans e)
/-! ### corbel/tree.Right$1 -/
noncomputable def tree_Right_1.f (k : Nat) (a0 : (ByteArray × ByteArray × Bool × Int × Sl)) (a1 : Option Addr) (h : H) : Option ((Bool) × H) :=
  (asS (ldc (newR h 58 5 [(Value.string a0.1), (Value.string a0.2.1), (Value.bool a0.2.2.1), (Value.int .i64 a0.2.2.2.1), (Value.slice a0.2.2.2.2.a a0.2.2.2.2.n a0.2.2.2.2.c)]) a1)).bind fun s1 =>
    (asSt [.str, .str, .bool, (.int .i64), .sl] (lda 5 (newR h 58 5 [(Value.string a0.1), (Value.string a0.2.1), (Value.bool a0.2.2.1), (Value.int .i64 a0.2.2.2.1), (Value.slice a0.2.2.2.2.a a0.2.2.2.2.n a0.2.2.2.2.c)]) (some ⟨h.next, 0, none⟩))).bind fun s2 =>
    (tree_parented.f k s1 (s2.1, s2.2.1, s2.2.2.1, s2.2.2.2.1, s2.2.2.2.2) (newR h 58 5 [(Value.string a0.1), (Value.string a0.2.1), (Value.bool a0.2.2.1), (Value.int .i64 a0.2.2.2.1), (Value.slice a0.2.2.2.2.a a0.2.2.2.2.n a0.2.2.2.2.c)])).bind fun q3 =>
    some (!q3.1, q3.2)
noncomputable def tree_Right_1.T (k : Nat) : Tbl := tblOf [⟨94, anyArgs, wr [.sl, (.st [.str, .str, .bool, (.int .i64), .sl])] [.bool] (fun a h => tree_parented.f k (a.1) (a.2) h)⟩]
noncomputable def tree_Right_1.an (k : Nat) (p : Nat) : Option Ann := none
noncomputable def tree_Right_1.body : Code := (Try.f93.body).getD .skip
set_option maxRecDepth 100000 in
theorem tree_Right_1.TS {C : FuncId → Bool} {X : CallF} (hX : XOk C X) (hK114 : CmpOk X 114) (k : Nat) : TblS Try.prog C X (tree_Right_1.T k) := by
  refine tblOf_sound ?_
  intro e he
  rcases List.mem_cons.1 he with rfl | he
  · exact wr_told (tree_parented.told hX hK114 k)
  exact absurd he List.not_mem_nil
set_option maxRecDepth 100000 in
theorem tree_Right_1.eq (k : Nat) (a : RT [(.st [.str, .str, .bool, (.int .i64), .sl]), .ptr]) (h : H) : (fun a h => tree_Right_1.f k (a.1) (a.2) h) a h = kfun Try.prog (tree_Right_1.T k) (tree_Right_1.an k) (RT [.bool] × H) Try.f93 (encL [(.st [.str, .str, .bool, (.int .i64), .sl]), .ptr] a) h (fun vs h' => (decL [.bool] vs).bind fun x => some (x, h')) := by kernel_rfl
set_option maxRecDepth 100000 in
theorem tree_Right_1.told {C : FuncId → Bool} {X : CallF} (hX : XOk C X) (hK114 : CmpOk X 114) (k : Nat) : Den.Told Try.prog C X 93 [(.st [.str, .str, .bool, (.int .i64), .sl]), .ptr] [.bool] (fun a h => tree_Right_1.f k (a.1) (a.2) h) :=
  told_of fun a h q e => fn_of (c := tree_Right_1.body) (tree_Right_1.TS hX hK114 k) Try.func93 (by kernel_rfl) (hX.no 93 _ h (by decide))
    (by
      have e : need (tree_Right_1.an k) tree_Right_1.body 1 = [] := by kernel_rfl
      rw [e]; intro q hq; cases hq)
    ((tree_Right_1.eq k a h).symm.trans e)
/-! ### slices.IndexFunc[[]corbel/api.Volume,corbel/api.Volume] -/
noncomputable def slices_IndexFunc_api_Volume_api_Volume_tree_Right_1.l0 (k : Nat) (n : Nat) : Sl → (Option Addr) → Int → Int → H → Option (((Int) ⊕ (Unit)) × H) :=
  Nat.rec (motive := fun _ => Sl → (Option Addr) → Int → Int → H → Option (((Int) ⊕ (Unit)) × H)) (fun _ _ _ _ _ => none) (fun _ ih x1 x2 x3 x4 h5 => cond (decide (x4 < x3))
      ((asP (ixs 5 x1.a x1.n x4)).bind fun p6 =>
    (asSt [.str, .str, .bool, (.int .i64), .sl] (lda 5 h5 p6)).bind fun s7 =>
    (tree_Right_1.f k (s7.1, s7.2.1, s7.2.2.1, s7.2.2.2.1, s7.2.2.2.2) x2 h5).bind fun q8 =>
    cond q8.1
      (some (Sum.inl x4, q8.2))
      (ih x1 (x2) x3 (wrapA .i64 (x4 + (1 : Int))) q8.2))
      (some (Sum.inr (), h5))) n
theorem slices_IndexFunc_api_Volume_api_Volume_tree_Right_1.l0_zero (k : Nat) (x1 : Sl) (x2 : Option Addr) (x3 : Int) (x4 : Int) (h5 : H) : slices_IndexFunc_api_Volume_api_Volume_tree_Right_1.l0 k 0 x1 x2 x3 x4 h5 = none := rfl
theorem slices_IndexFunc_api_Volume_api_Volume_tree_Right_1.l0_succ (k n : Nat) (x1 : Sl) (x2 : Option Addr) (x3 : Int) (x4 : Int) (h5 : H) : slices_IndexFunc_api_Volume_api_Volume_tree_Right_1.l0 k (n + 1) x1 x2 x3 x4 h5 = (cond (decide (x4 < x3))
      ((asP (ixs 5 x1.a x1.n x4)).bind fun p6 =>
    (asSt [.str, .str, .bool, (.int .i64), .sl] (lda 5 h5 p6)).bind fun s7 =>
    (tree_Right_1.f k (s7.1, s7.2.1, s7.2.2.1, s7.2.2.2.1, s7.2.2.2.2) x2 h5).bind fun q8 =>
    cond q8.1
      (some (Sum.inl x4, q8.2))
      (slices_IndexFunc_api_Volume_api_Volume_tree_Right_1.l0 k n x1 (x2) x3 (wrapA .i64 (x4 + (1 : Int))) q8.2))
      (some (Sum.inr (), h5))) := rfl
noncomputable def slices_IndexFunc_api_Volume_api_Volume_tree_Right_1.f (k : Nat) (a0 : Sl) (a1 : Option Addr) (h : H) : Option ((Int) × H) :=
  (slices_IndexFunc_api_Volume_api_Volume_tree_Right_1.l0 k k a0 (a1) (Int.ofNat a0.n) (0 : Int) h).bind fun w9 =>
    match w9.1 with
    | .inl r10 => some (r10, w9.2)
    | .inr o11 => some ((-1 : Int), w9.2)
noncomputable def slices_IndexFunc_api_Volume_api_Volume_tree_Right_1.T (k : Nat) : Tbl := tblOf [⟨93, anyArgs, wr [(.st [.str, .str, .bool, (.int .i64), .sl]), .ptr] [.bool] (fun a h => tree_Right_1.f k (a.1) (a.2) h)⟩]
noncomputable def slices_IndexFunc_api_Volume_api_Volume_tree_Right_1.an (k : Nat) (p : Nat) : Option Ann := cond (Nat.beq p 26) (some (.pass [] (lrun [(0, .sl), (1, (.fn 93 1)), (7, (.int .i64)), (8, (.int .i64))] (some [(4, (.int .i64))]) [] 0 (fun a h => slices_IndexFunc_api_Volume_api_Volume_tree_Right_1.l0 k k (a.1) (a.2.1) (a.2.2.1) (a.2.2.2) h))))
  (none)
noncomputable def slices_IndexFunc_api_Volume_api_Volume_tree_Right_1.body : Code := (Try.f111.body).getD .skip
noncomputable def slices_IndexFunc_api_Volume_api_Volume_tree_Right_1.c26 : Code := cat slices_IndexFunc_api_Volume_api_Volume_tree_Right_1.body [1, 0, 1, 0, 0]
set_option maxRecDepth 100000 in
theorem slices_IndexFunc_api_Volume_api_Volume_tree_Right_1.TS {C : FuncId → Bool} {X : CallF} (hX : XOk C X) (hK114 : CmpOk X 114) (k : Nat) : TblS Try.prog C X (slices_IndexFunc_api_Volume_api_Volume_tree_Right_1.T k) := by
  refine tblOf_sound ?_
  intro e he
  rcases List.mem_cons.1 he with rfl | he
  · exact wr_told (tree_Right_1.told hX hK114 k)
  exact absurd he List.not_mem_nil
set_option maxRecDepth 100000 in
theorem slices_IndexFunc_api_Volume_api_Volume_tree_Right_1.l0_pass {C : FuncId → Bool} {X : CallF} (hX : XOk C X) (hK114 : CmpOk X 114) (k n : Nat) : PassS Try.prog C X 19 (.loop slices_IndexFunc_api_Volume_api_Volume_tree_Right_1.c26) (lrun [(0, .sl), (1, (.fn 93 1)), (7, (.int .i64)), (8, (.int .i64))] (some [(4, (.int .i64))]) [] 0 (fun a h => slices_IndexFunc_api_Volume_api_Volume_tree_Right_1.l0 k n (a.1) (a.2.1) (a.2.2.1) (a.2.2.2) h)) :=
  loop_pass (ins := [(0, .sl), (1, (.fn 93 1)), (7, (.int .i64)), (8, (.int .i64))]) (rets := (some [(4, (.int .i64))])) (outs := []) (id := 0) (tbl := slices_IndexFunc_api_Volume_api_Volume_tree_Right_1.T k) (an := slices_IndexFunc_api_Volume_api_Volume_tree_Right_1.an k) (pb := 52) (slices_IndexFunc_api_Volume_api_Volume_tree_Right_1.TS hX hK114 k) (fun n => (fun a h => slices_IndexFunc_api_Volume_api_Volume_tree_Right_1.l0 k n (a.1) (a.2.1) (a.2.2.1) (a.2.2.2) h)) (fun a h => rfl) (fun n a h => by kernel_rfl)
    (by
      have e : need (slices_IndexFunc_api_Volume_api_Volume_tree_Right_1.an k) slices_IndexFunc_api_Volume_api_Volume_tree_Right_1.c26 52 = [] := by kernel_rfl
      rw [e]; intro q hq; cases hq) n
set_option maxRecDepth 100000 in
theorem slices_IndexFunc_api_Volume_api_Volume_tree_Right_1.eq (k : Nat) (a : RT [.sl, (.fn 93 1)]) (h : H) : (fun a h => slices_IndexFunc_api_Volume_api_Volume_tree_Right_1.f k (a.1) (a.2) h) a h = kfun Try.prog (slices_IndexFunc_api_Volume_api_Volume_tree_Right_1.T k) (slices_IndexFunc_api_Volume_api_Volume_tree_Right_1.an k) (RT [(.int .i64)] × H) Try.f111 (encL [.sl, (.fn 93 1)] a) h (fun vs h' => (decL [(.int .i64)] vs).bind fun x => some (x, h')) := by kernel_rfl
set_option maxRecDepth 100000 in
theorem slices_IndexFunc_api_Volume_api_Volume_tree_Right_1.told {C : FuncId → Bool} {X : CallF} (hX : XOk C X) (hK114 : CmpOk X 114) (k : Nat) : Den.Told Try.prog C X 111 [.sl, (.fn 93 1)] [(.int .i64)] (fun a h => slices_IndexFunc_api_Volume_api_Volume_tree_Right_1.f k (a.1) (a.2) h) :=
  told_of fun a h q e => fn_of (c := slices_IndexFunc_api_Volume_api_Volume_tree_Right_1.body) (slices_IndexFunc_api_Volume_api_Volume_tree_Right_1.TS hX hK114 k) Try.func111 (by kernel_rfl) (hX.no 111 _ h (by decide))
    (by
      have e : need (slices_IndexFunc_api_Volume_api_Volume_tree_Right_1.an k) slices_IndexFunc_api_Volume_api_Volume_tree_Right_1.body 1 = [(Code.loop slices_IndexFunc_api_Volume_api_Volume_tree_Right_1.c26, lrun [(0, .sl), (1, (.fn 93 1)), (7, (.int .i64)), (8, (.int .i64))] (some [(4, (.int .i64))]) [] 0 (fun a h => slices_IndexFunc_api_Volume_api_Volume_tree_Right_1.l0 k k (a.1) (a.2.1) (a.2.2.1) (a.2.2.2) h))] := by kernel_rfl
      rw [e]; intro q hq
      rcases List.mem_cons.1 hq with rfl | hq
      · exact slices_IndexFunc_api_Volume_api_Volume_tree_Right_1.l0_pass hX hK114 k k
      cases hq)
    ((slices_IndexFunc_api_Volume_api_Volume_tree_Right_1.eq k a h).symm.trans e)
/-! ### slices.ContainsFunc[[]corbel/api.Volume,corbel/api.Volume] -/
noncomputable def slices_ContainsFunc_api_Volume_api_Volume_tree_Right_1.f (k : Nat) (a0 : Sl) (a1 : Option Addr) (h : H) : Option ((Bool) × H) :=
  (slices_IndexFunc_api_Volume_api_Volume_tree_Right_1.f k a0 (a1) h).bind fun q1 =>
    some (decide (q1.1 ≥ (0 : Int)), q1.2)
noncomputable def slices_ContainsFunc_api_Volume_api_Volume_tree_Right_1.T (k : Nat) : Tbl := tblOf [⟨111, chkF [(1, 93)], wr [.sl, (.fn 93 1)] [(.int .i64)] (fun a h => slices_IndexFunc_api_Volume_api_Volume_tree_Right_1.f k (a.1) (a.2) h)⟩]
noncomputable def slices_ContainsFunc_api_Volume_api_Volume_tree_Right_1.an (k : Nat) (p : Nat) : Option Ann := none
noncomputable def slices_ContainsFunc_api_Volume_api_Volume_tree_Right_1.body : Code := (Try.f89.body).getD .skip
set_option maxRecDepth 100000 in
theorem slices_ContainsFunc_api_Volume_api_Volume_tree_Right_1.TS {C : FuncId → Bool} {X : CallF} (hX : XOk C X) (hK114 : CmpOk X 114) (k : Nat) : TblS Try.prog C X (slices_ContainsFunc_api_Volume_api_Volume_tree_Right_1.T k) := by
  refine tblOf_sound ?_
  intro e he
  rcases List.mem_cons.1 he with rfl | he
  · exact wr_told (slices_IndexFunc_api_Volume_api_Volume_tree_Right_1.told hX hK114 k)
  exact absurd he List.not_mem_nil
set_option maxRecDepth 100000 in
theorem slices_ContainsFunc_api_Volume_api_Volume_tree_Right_1.eq (k : Nat) (a : RT [.sl, (.fn 93 1)]) (h : H) : (fun a h => slices_ContainsFunc_api_Volume_api_Volume_tree_Right_1.f k (a.1) (a.2) h) a h = kfun Try.prog (slices_ContainsFunc_api_Volume_api_Volume_tree_Right_1.T k) (slices_ContainsFunc_api_Volume_api_Volume_tree_Right_1.an k) (RT [.bool] × H) Try.f89 (encL [.sl, (.fn 93 1)] a) h (fun vs h' => (decL [.bool] vs).bind fun x => some (x, h')) := by kernel_rfl
set_option maxRecDepth 100000 in
theorem slices_ContainsFunc_api_Volume_api_Volume_tree_Right_1.told {C : FuncId → Bool} {X : CallF} (hX : XOk C X) (hK114 : CmpOk X 114) (k : Nat) : Den.Told Try.prog C X 89 [.sl, (.fn 93 1)] [.bool] (fun a h => slices_ContainsFunc_api_Volume_api_Volume_tree_Right_1.f k (a.1) (a.2) h) :=
  told_of fun a h q e => fn_of (c := slices_ContainsFunc_api_Volume_api_Volume_tree_Right_1.body) (slices_ContainsFunc_api_Volume_api_Volume_tree_Right_1.TS hX hK114 k) Try.func89 (by kernel_rfl) (hX.no 89 _ h (by decide))
    (by
      have e : need (slices_ContainsFunc_api_Volume_api_Volume_tree_Right_1.an k) slices_ContainsFunc_api_Volume_api_Volume_tree_Right_1.body 1 = [] := by kernel_rfl
      rw [e]; intro q hq; cases hq)
    ((slices_ContainsFunc_api_Volume_api_Volume_tree_Right_1.eq k a h).symm.trans e)
/-! ### corbel/tree.Right -/
noncomputable def tree_Right.l0 (k : Nat) (n : Nat) : (Option Addr) → Sl → Int → Int → H → Option (((Bool) ⊕ (Unit)) × H) :=
  Nat.rec (motive := fun _ => (Option Addr) → Sl → Int → Int → H → Option (((Bool) ⊕ (Unit)) × H)) (fun _ _ _ _ _ => none) (fun _ ih x2 x3 x4 x5 h6 => cond (decide (x5 < x4))
      ((asP (ixs 5 x3.a x3.n x5)).bind fun p7 =>
    (asSt [.str, .str, .bool, (.int .i64), .sl] (lda 5 h6 p7)).bind fun s8 =>
    (stv 5 (newR h6 58 5 [(Value.string (⟨#[]⟩ : ByteArray)), (Value.string (⟨#[]⟩ : ByteArray)), (Value.bool false), (Value.int .i64 (0 : Int)), (Value.slice none 0 0)]) (some ⟨h6.next, 0, none⟩) [(Value.string s8.1), (Value.string s8.2.1), (Value.bool s8.2.2.1), (Value.int .i64 s8.2.2.2.1), (Value.slice s8.2.2.2.2.a s8.2.2.2.2.n s8.2.2.2.2.c)]).bind fun q9 =>
    (cond (decide (x5 > (0 : Int))) ((asS (ldc q9.2 x2)).bind fun s10 =>
    (asP (ixs 5 s10.a s10.n (wrapA .i64 (x5 - (1 : Int))))).bind fun p11 =>
    (asP (fadd 0 p11)).bind fun p12 =>
    (asT (ldc q9.2 p12)).bind fun s13 =>
    (asT (ldc q9.2 (some ⟨h6.next, 0, none⟩))).bind fun s14 =>
    some (!(Op.bytesLess s13.toList s14.toList), q9.2, [], []))
      (some (false, q9.2, [], [])) : Option (Bool × H × LEs × EFs)).bind fun g15 =>
    (cond g15.1 (some (true, g15.2.1, [], []))
      ((asT (ldc g15.2.1 (some ⟨h6.next, 0, none⟩))).bind fun s16 =>
    (tree_IsName.f k s16 g15.2.1).bind fun q17 =>
    some (!q17.1, q17.2, [], [])) : Option (Bool × H × LEs × EFs)).bind fun g18 =>
    (cond g18.1 (some (true, g18.2.1, [], []))
      ((asI .i64 (ldc g18.2.1 (some ⟨h6.next, 3, none⟩))).bind fun n19 =>
    (asS (ldc g18.2.1 (some ⟨h6.next, 4, none⟩))).bind fun s20 =>
    (extent_Right.f k n19 s20 g18.2.1).bind fun q21 =>
    some (!q21.1, q21.2, [], [])) : Option (Bool × H × LEs × EFs)).bind fun g22 =>
    cond g22.1
      (some (Sum.inl false, g22.2.1))
      (ih x2 x3 x4 (wrapA .i64 (x5 + (1 : Int))) g22.2.1))
      (some (Sum.inr (), h6))) n
theorem tree_Right.l0_zero (k : Nat) (x2 : Option Addr) (x3 : Sl) (x4 : Int) (x5 : Int) (h6 : H) : tree_Right.l0 k 0 x2 x3 x4 x5 h6 = none := rfl
theorem tree_Right.l0_succ (k n : Nat) (x2 : Option Addr) (x3 : Sl) (x4 : Int) (x5 : Int) (h6 : H) : tree_Right.l0 k (n + 1) x2 x3 x4 x5 h6 = (cond (decide (x5 < x4))
      ((asP (ixs 5 x3.a x3.n x5)).bind fun p7 =>
    (asSt [.str, .str, .bool, (.int .i64), .sl] (lda 5 h6 p7)).bind fun s8 =>
    (stv 5 (newR h6 58 5 [(Value.string (⟨#[]⟩ : ByteArray)), (Value.string (⟨#[]⟩ : ByteArray)), (Value.bool false), (Value.int .i64 (0 : Int)), (Value.slice none 0 0)]) (some ⟨h6.next, 0, none⟩) [(Value.string s8.1), (Value.string s8.2.1), (Value.bool s8.2.2.1), (Value.int .i64 s8.2.2.2.1), (Value.slice s8.2.2.2.2.a s8.2.2.2.2.n s8.2.2.2.2.c)]).bind fun q9 =>
    (cond (decide (x5 > (0 : Int))) ((asS (ldc q9.2 x2)).bind fun s10 =>
    (asP (ixs 5 s10.a s10.n (wrapA .i64 (x5 - (1 : Int))))).bind fun p11 =>
    (asP (fadd 0 p11)).bind fun p12 =>
    (asT (ldc q9.2 p12)).bind fun s13 =>
    (asT (ldc q9.2 (some ⟨h6.next, 0, none⟩))).bind fun s14 =>
    some (!(Op.bytesLess s13.toList s14.toList), q9.2, [], []))
      (some (false, q9.2, [], [])) : Option (Bool × H × LEs × EFs)).bind fun g15 =>
    (cond g15.1 (some (true, g15.2.1, [], []))
      ((asT (ldc g15.2.1 (some ⟨h6.next, 0, none⟩))).bind fun s16 =>
    (tree_IsName.f k s16 g15.2.1).bind fun q17 =>
    some (!q17.1, q17.2, [], [])) : Option (Bool × H × LEs × EFs)).bind fun g18 =>
    (cond g18.1 (some (true, g18.2.1, [], []))
      ((asI .i64 (ldc g18.2.1 (some ⟨h6.next, 3, none⟩))).bind fun n19 =>
    (asS (ldc g18.2.1 (some ⟨h6.next, 4, none⟩))).bind fun s20 =>
    (extent_Right.f k n19 s20 g18.2.1).bind fun q21 =>
    some (!q21.1, q21.2, [], [])) : Option (Bool × H × LEs × EFs)).bind fun g22 =>
    cond g22.1
      (some (Sum.inl false, g22.2.1))
      (tree_Right.l0 k n x2 x3 x4 (wrapA .i64 (x5 + (1 : Int))) g22.2.1))
      (some (Sum.inr (), h6))) := rfl
noncomputable def tree_Right.f (k : Nat) (a0 : Sl) (h : H) : Option ((Bool) × H) :=
  (asS (ldc (newR h 59 1 [(Value.slice a0.a a0.n a0.c)]) (some ⟨h.next, 0, none⟩))).bind fun s1 =>
    (tree_Right.l0 k k (some ⟨h.next, 0, none⟩) s1 (Int.ofNat s1.n) (0 : Int) (newR h 59 1 [(Value.slice a0.a a0.n a0.c)])).bind fun w23 =>
    match w23.1 with
    | .inl r24 => some (r24, w23.2)
    | .inr o25 => (asS (ldc w23.2 (some ⟨h.next, 0, none⟩))).bind fun s26 =>
    (cond (decide ((Int.ofNat s26.n) ≤ (12 : Int))) ((asS (ldc w23.2 (some ⟨h.next, 0, none⟩))).bind fun s27 =>
    (slices_ContainsFunc_api_Volume_api_Volume_tree_Right_1.f k s27 ((some ⟨h.next, 0, none⟩)) w23.2).bind fun q28 =>
    some (!q28.1, q28.2))
      (some (false, w23.2))).bind fun g29 =>
    some (g29.1, g29.2)
noncomputable def tree_Right.T (k : Nat) : Tbl := tblOf [⟨65, anyArgs, wr [.str] [.bool] (fun a h => tree_IsName.f k a h)⟩,
  ⟨30, anyArgs, wr [(.int .i64), .sl] [.bool] (fun a h => extent_Right.f k (a.1) (a.2) h)⟩,
  ⟨89, chkF [(1, 93)], wr [.sl, (.fn 93 1)] [.bool] (fun a h => slices_ContainsFunc_api_Volume_api_Volume_tree_Right_1.f k (a.1) (a.2) h)⟩]
noncomputable def tree_Right.an (k : Nat) (p : Nat) : Option Ann := cond (Nat.beq p 26) (some (.pass [1] (lrun [(1, .ptr), (5, .sl), (6, (.int .i64)), (7, (.int .i64))] (some [(2, .bool)]) [] 0 (fun a h => tree_Right.l0 k k (a.1) (a.2.1) (a.2.2.1) (a.2.2.2) h))))
  (none)
noncomputable def tree_Right.body : Code := (Try.f56.body).getD .skip
noncomputable def tree_Right.c26 : Code := cat tree_Right.body [1, 0, 1, 0, 0]
set_option maxRecDepth 100000 in
theorem tree_Right.TS {C : FuncId → Bool} {X : CallF} (hX : XOk C X) (hK114 : CmpOk X 114) (k : Nat) : TblS Try.prog C X (tree_Right.T k) := by
  refine tblOf_sound ?_
  intro e he
  rcases List.mem_cons.1 he with rfl | he
  · exact wr_told (tree_IsName.told hX k)
  rcases List.mem_cons.1 he with rfl | he
  · exact wr_told (extent_Right.told hX k)
  rcases List.mem_cons.1 he with rfl | he
  · exact wr_told (slices_ContainsFunc_api_Volume_api_Volume_tree_Right_1.told hX hK114 k)
  exact absurd he List.not_mem_nil
set_option maxRecDepth 100000 in
theorem tree_Right.l0_pass {C : FuncId → Bool} {X : CallF} (hX : XOk C X) (hK114 : CmpOk X 114) (k n : Nat) : PassS Try.prog C X 49 (.loop tree_Right.c26) (lrun [(1, .ptr), (5, .sl), (6, (.int .i64)), (7, (.int .i64))] (some [(2, .bool)]) [] 0 (fun a h => tree_Right.l0 k n (a.1) (a.2.1) (a.2.2.1) (a.2.2.2) h)) :=
  loop_pass (ins := [(1, .ptr), (5, .sl), (6, (.int .i64)), (7, (.int .i64))]) (rets := (some [(2, .bool)])) (outs := []) (id := 0) (tbl := tree_Right.T k) (an := tree_Right.an k) (pb := 52) (tree_Right.TS hX hK114 k) (fun n => (fun a h => tree_Right.l0 k n (a.1) (a.2.1) (a.2.2.1) (a.2.2.2) h)) (fun a h => rfl) (fun n a h => by kernel_rfl)
    (by
      have e : need (tree_Right.an k) tree_Right.c26 52 = [] := by kernel_rfl
      rw [e]; intro q hq; cases hq) n
set_option maxRecDepth 100000 in
theorem tree_Right.eq (k : Nat) (a : RT [.sl]) (h : H) : (fun a h => tree_Right.f k a h) a h = kfun Try.prog (tree_Right.T k) (tree_Right.an k) (RT [.bool] × H) Try.f56 (encL [.sl] a) h (fun vs h' => (decL [.bool] vs).bind fun x => some (x, h')) := by kernel_rfl
set_option maxRecDepth 100000 in
theorem tree_Right.told {C : FuncId → Bool} {X : CallF} (hX : XOk C X) (hK114 : CmpOk X 114) (k : Nat) : Den.Told Try.prog C X 56 [.sl] [.bool] (fun a h => tree_Right.f k a h) :=
  told_of fun a h q e => fn_of (c := tree_Right.body) (tree_Right.TS hX hK114 k) Try.func56 (by kernel_rfl) (hX.no 56 _ h (by decide))
    (by
      have e : need (tree_Right.an k) tree_Right.body 1 = [(Code.loop tree_Right.c26, lrun [(1, .ptr), (5, .sl), (6, (.int .i64)), (7, (.int .i64))] (some [(2, .bool)]) [] 0 (fun a h => tree_Right.l0 k k (a.1) (a.2.1) (a.2.2.1) (a.2.2.2) h))] := by kernel_rfl
      rw [e]; intro q hq
      rcases List.mem_cons.1 hq with rfl | hq
      · exact tree_Right.l0_pass hX hK114 k k
      cases hq)
    ((tree_Right.eq k a h).symm.trans e)
/-! ### corbel/meta.Lay -/
noncomputable def meta_Lay.l1 (k : Nat) (n : Nat) : Sl → Int → Int → Sl → Int → Sl → Int → H → Option ((Sl) × H) :=
  Nat.rec (motive := fun _ => Sl → Int → Int → Sl → Int → Sl → Int → H → Option ((Sl) × H)) (fun _ _ _ _ _ _ _ _ => none) (fun _ ih x23 x24 x25 x26 x27 x28 x29 h30 => cond (decide (x29 < x27))
      ((asP (ixs 1 x26.a x26.n x29)).bind fun p31 =>
    (asI .i64 (ldc h30 p31)).bind fun n32 =>
    (asS2 (apv 5 1 1 (Value.slice x28.a x28.n x28.c) (Value.slice (some ⟨h30.next, 0, none⟩) 1 1) (newR h30 5 1 [(Value.int .u8 (wrapA .u8 n32))]))).bind fun q33 =>
    ih x23 x24 x25 x26 x27 q33.1 (wrapA .i64 (x29 + (1 : Int))) q33.2)
      (some (x28, h30))) n
theorem meta_Lay.l1_zero (k : Nat) (x23 : Sl) (x24 : Int) (x25 : Int) (x26 : Sl) (x27 : Int) (x28 : Sl) (x29 : Int) (h30 : H) : meta_Lay.l1 k 0 x23 x24 x25 x26 x27 x28 x29 h30 = none := rfl
theorem meta_Lay.l1_succ (k n : Nat) (x23 : Sl) (x24 : Int) (x25 : Int) (x26 : Sl) (x27 : Int) (x28 : Sl) (x29 : Int) (h30 : H) : meta_Lay.l1 k (n + 1) x23 x24 x25 x26 x27 x28 x29 h30 = (cond (decide (x29 < x27))
      ((asP (ixs 1 x26.a x26.n x29)).bind fun p31 =>
    (asI .i64 (ldc h30 p31)).bind fun n32 =>
    (asS2 (apv 5 1 1 (Value.slice x28.a x28.n x28.c) (Value.slice (some ⟨h30.next, 0, none⟩) 1 1) (newR h30 5 1 [(Value.int .u8 (wrapA .u8 n32))]))).bind fun q33 =>
    meta_Lay.l1 k n x23 x24 x25 x26 x27 q33.1 (wrapA .i64 (x29 + (1 : Int))) q33.2)
      (some (x28, h30))) := rfl
noncomputable def meta_Lay.l0 (k : Nat) (n : Nat) : Sl → Int → Sl → Int → H → Option ((Sl) × H) :=
  Nat.rec (motive := fun _ => Sl → Int → Sl → Int → H → Option ((Sl) × H)) (fun _ _ _ _ _ => none) (fun _ ih x2 x3 x4 x5 h6 => cond (decide (x5 < x3))
      ((asP (ixs 5 x2.a x2.n x5)).bind fun p7 =>
    (asSt [.str, .str, .bool, (.int .i64), .sl] (lda 5 h6 p7)).bind fun s8 =>
    (stv 5 (newR h6 58 5 [(Value.string (⟨#[]⟩ : ByteArray)), (Value.string (⟨#[]⟩ : ByteArray)), (Value.bool false), (Value.int .i64 (0 : Int)), (Value.slice none 0 0)]) (some ⟨h6.next, 0, none⟩) [(Value.string s8.1), (Value.string s8.2.1), (Value.bool s8.2.2.1), (Value.int .i64 s8.2.2.2.1), (Value.slice s8.2.2.2.2.a s8.2.2.2.2.n s8.2.2.2.2.c)]).bind fun q9 =>
    (asB (ldc q9.2 (some ⟨h6.next, 2, none⟩))).bind fun b10 =>
    (cond b10
      (some ((1 : Int), q9.2))
      (some ((0 : Int), q9.2)) : Option ((Int) × H)).bind fun j11 =>
    (asT (ldc j11.2 (some ⟨h6.next, 0, none⟩))).bind fun s12 =>
    (meta_bytes.f k (Int.ofNat s12.data.toList.length) (1 : Int) j11.2).bind fun q13 =>
    (asT (ldc q13.2 (some ⟨h6.next, 0, none⟩))).bind fun s14 =>
    (asT (ldc (newT q13.2 5 s14) (some ⟨h6.next, 1, none⟩))).bind fun s15 =>
    (meta_bytes.f k (Int.ofNat s15.data.toList.length) (1 : Int) (newT q13.2 5 s14)).bind fun q16 =>
    (asT (ldc q16.2 (some ⟨h6.next, 1, none⟩))).bind fun s17 =>
    (meta_bytes.f k j11.1 (1 : Int) (newT q16.2 5 s17)).bind fun q18 =>
    (asI .i64 (ldc q18.2 (some ⟨h6.next, 3, none⟩))).bind fun n19 =>
    (meta_bytes.f k n19 (2 : Int) q18.2).bind fun q20 =>
    (slices_Concat_byte_byte.f k (⟨(some ⟨q20.2.next, 0, none⟩), 7, 7⟩ : Sl) (newR q20.2 30 1 [(Value.slice x4.a x4.n x4.c), (Value.slice q13.1.a q13.1.n q13.1.c), (Value.slice (some ⟨q13.2.next, 0, none⟩) s14.data.toList.length (unkOf 1)), (Value.slice q16.1.a q16.1.n q16.1.c), (Value.slice (some ⟨q16.2.next, 0, none⟩) s17.data.toList.length (unkOf 1)), (Value.slice q18.1.a q18.1.n q18.1.c), (Value.slice q20.1.a q20.1.n q20.1.c)])).bind fun q21 =>
    cond (same1 j11.2 q13.2 (some (Value.pointer (some ⟨h6.next, 0, none⟩))) && (same1 (newT q13.2 5 s14) q16.2 (some (Value.pointer (some ⟨h6.next, 0, none⟩))) && (same1 (newT q16.2 5 s17) q18.2 (some (Value.pointer (some ⟨h6.next, 0, none⟩))) && (same1 q18.2 q20.2 (some (Value.pointer (some ⟨h6.next, 0, none⟩))) && (same1 j11.2 q13.2 (some (Value.pointer (some ⟨h6.next, 1, none⟩))) && (same1 j11.2 q13.2 (some (Value.pointer (some ⟨h6.next, 1, none⟩))) && (same1 (newT q13.2 5 s14) q16.2 (some (Value.pointer (some ⟨h6.next, 1, none⟩))) && (same1 (newT q16.2 5 s17) q18.2 (some (Value.pointer (some ⟨h6.next, 1, none⟩))) && (same1 q18.2 q20.2 (some (Value.pointer (some ⟨h6.next, 1, none⟩))) && (same1 j11.2 q13.2 (some (Value.pointer (some ⟨h6.next, 3, none⟩))) && (same1 (newT q13.2 5 s14) q16.2 (some (Value.pointer (some ⟨h6.next, 3, none⟩))) && (same1 (newT q16.2 5 s17) q18.2 (some (Value.pointer (some ⟨h6.next, 3, none⟩))) && (true))))))))))))) ((asS (ldc q21.2 (some ⟨h6.next, 4, none⟩))).bind fun s22 =>
    (meta_Lay.l1 k k x2 x3 x5 s22 (Int.ofNat s22.n) q21.1 (0 : Int) q21.2).bind fun w34 =>
    ih x2 x3 w34.1 (wrapA .i64 (x5 + (1 : Int))) w34.2) none)
      (some (x4, h6))) n
theorem meta_Lay.l0_zero (k : Nat) (x2 : Sl) (x3 : Int) (x4 : Sl) (x5 : Int) (h6 : H) : meta_Lay.l0 k 0 x2 x3 x4 x5 h6 = none := rfl
theorem meta_Lay.l0_succ (k n : Nat) (x2 : Sl) (x3 : Int) (x4 : Sl) (x5 : Int) (h6 : H) : meta_Lay.l0 k (n + 1) x2 x3 x4 x5 h6 = (cond (decide (x5 < x3))
      ((asP (ixs 5 x2.a x2.n x5)).bind fun p7 =>
    (asSt [.str, .str, .bool, (.int .i64), .sl] (lda 5 h6 p7)).bind fun s8 =>
    (stv 5 (newR h6 58 5 [(Value.string (⟨#[]⟩ : ByteArray)), (Value.string (⟨#[]⟩ : ByteArray)), (Value.bool false), (Value.int .i64 (0 : Int)), (Value.slice none 0 0)]) (some ⟨h6.next, 0, none⟩) [(Value.string s8.1), (Value.string s8.2.1), (Value.bool s8.2.2.1), (Value.int .i64 s8.2.2.2.1), (Value.slice s8.2.2.2.2.a s8.2.2.2.2.n s8.2.2.2.2.c)]).bind fun q9 =>
    (asB (ldc q9.2 (some ⟨h6.next, 2, none⟩))).bind fun b10 =>
    (cond b10
      (some ((1 : Int), q9.2))
      (some ((0 : Int), q9.2)) : Option ((Int) × H)).bind fun j11 =>
    (asT (ldc j11.2 (some ⟨h6.next, 0, none⟩))).bind fun s12 =>
    (meta_bytes.f k (Int.ofNat s12.data.toList.length) (1 : Int) j11.2).bind fun q13 =>
    (asT (ldc q13.2 (some ⟨h6.next, 0, none⟩))).bind fun s14 =>
    (asT (ldc (newT q13.2 5 s14) (some ⟨h6.next, 1, none⟩))).bind fun s15 =>
    (meta_bytes.f k (Int.ofNat s15.data.toList.length) (1 : Int) (newT q13.2 5 s14)).bind fun q16 =>
    (asT (ldc q16.2 (some ⟨h6.next, 1, none⟩))).bind fun s17 =>
    (meta_bytes.f k j11.1 (1 : Int) (newT q16.2 5 s17)).bind fun q18 =>
    (asI .i64 (ldc q18.2 (some ⟨h6.next, 3, none⟩))).bind fun n19 =>
    (meta_bytes.f k n19 (2 : Int) q18.2).bind fun q20 =>
    (slices_Concat_byte_byte.f k (⟨(some ⟨q20.2.next, 0, none⟩), 7, 7⟩ : Sl) (newR q20.2 30 1 [(Value.slice x4.a x4.n x4.c), (Value.slice q13.1.a q13.1.n q13.1.c), (Value.slice (some ⟨q13.2.next, 0, none⟩) s14.data.toList.length (unkOf 1)), (Value.slice q16.1.a q16.1.n q16.1.c), (Value.slice (some ⟨q16.2.next, 0, none⟩) s17.data.toList.length (unkOf 1)), (Value.slice q18.1.a q18.1.n q18.1.c), (Value.slice q20.1.a q20.1.n q20.1.c)])).bind fun q21 =>
    cond (same1 j11.2 q13.2 (some (Value.pointer (some ⟨h6.next, 0, none⟩))) && (same1 (newT q13.2 5 s14) q16.2 (some (Value.pointer (some ⟨h6.next, 0, none⟩))) && (same1 (newT q16.2 5 s17) q18.2 (some (Value.pointer (some ⟨h6.next, 0, none⟩))) && (same1 q18.2 q20.2 (some (Value.pointer (some ⟨h6.next, 0, none⟩))) && (same1 j11.2 q13.2 (some (Value.pointer (some ⟨h6.next, 1, none⟩))) && (same1 j11.2 q13.2 (some (Value.pointer (some ⟨h6.next, 1, none⟩))) && (same1 (newT q13.2 5 s14) q16.2 (some (Value.pointer (some ⟨h6.next, 1, none⟩))) && (same1 (newT q16.2 5 s17) q18.2 (some (Value.pointer (some ⟨h6.next, 1, none⟩))) && (same1 q18.2 q20.2 (some (Value.pointer (some ⟨h6.next, 1, none⟩))) && (same1 j11.2 q13.2 (some (Value.pointer (some ⟨h6.next, 3, none⟩))) && (same1 (newT q13.2 5 s14) q16.2 (some (Value.pointer (some ⟨h6.next, 3, none⟩))) && (same1 (newT q16.2 5 s17) q18.2 (some (Value.pointer (some ⟨h6.next, 3, none⟩))) && (true))))))))))))) ((asS (ldc q21.2 (some ⟨h6.next, 4, none⟩))).bind fun s22 =>
    (meta_Lay.l1 k k x2 x3 x5 s22 (Int.ofNat s22.n) q21.1 (0 : Int) q21.2).bind fun w34 =>
    meta_Lay.l0 k n x2 x3 w34.1 (wrapA .i64 (x5 + (1 : Int))) w34.2) none)
      (some (x4, h6))) := rfl
noncomputable def meta_Lay.f (k : Nat) (a0 : Sl) (h : H) : Option ((Sl × Int) × H) :=
  (tree_Right.f k a0 h).bind fun q1 =>
    cond (!q1.1)
      (some (((⟨none, 0, 0⟩ : Sl), (1 : Int)), q1.2))
      ((meta_Lay.l0 k k a0 (Int.ofNat a0.n) (⟨(some ⟨q1.2.next, 0, none⟩), 1, 1⟩ : Sl) (0 : Int) (newR q1.2 5 1 [(Value.int .u8 (wrapA .u8 (Int.ofNat a0.n)))])).bind fun w35 =>
    some ((w35.1, (0 : Int)), w35.2))
noncomputable def meta_Lay.T (k : Nat) : Tbl := tblOf [⟨56, anyArgs, wr [.sl] [.bool] (fun a h => tree_Right.f k a h)⟩,
  ⟨75, anyArgs, wr [(.int .i64), (.int .i64)] [.sl] (fun a h => meta_bytes.f k (a.1) (a.2) h)⟩,
  ⟨74, anyArgs, wr [.sl] [.sl] (fun a h => slices_Concat_byte_byte.f k a h)⟩]
noncomputable def meta_Lay.an (k : Nat) (p : Nat) : Option Ann := cond (Nat.beq p 122) (some (.pass [] (lrun [(17, .sl), (18, (.int .i64)), (4, .sl), (19, (.int .i64))] none [(4, .sl)] 0 (fun a h => meta_Lay.l0 k k (a.1) (a.2.1) (a.2.2.1) (a.2.2.2) h))))
  (cond (Nat.beq p 250686) (some (.pass [17, 18, 19] (lrun [(17, .sl), (18, (.int .i64)), (19, (.int .i64)), (48, .sl), (49, (.int .i64)), (4, .sl), (50, (.int .i64))] none [(4, .sl)] 2 (fun a h => meta_Lay.l1 k k (a.1) (a.2.1) (a.2.2.1) (a.2.2.2.1) (a.2.2.2.2.1) (a.2.2.2.2.2.1) (a.2.2.2.2.2.2) h))))
  (cond (Nat.beq p 62669) (some (.join [4, 6, 17, 18, 19] none [(7, (.int .i64))]))
  (none)))
noncomputable def meta_Lay.body : Code := (Try.f39.body).getD .skip
noncomputable def meta_Lay.c122 : Code := cat meta_Lay.body [1, 1, 1, 0, 1, 0, 0]
noncomputable def meta_Lay.c250686 : Code := cat meta_Lay.body [1, 1, 1, 0, 1, 0, 0, 1, 1, 0, 0, 1, 1, 1, 1, 1, 0, 0]
set_option maxRecDepth 100000 in
theorem meta_Lay.TS {C : FuncId → Bool} {X : CallF} (hX : XOk C X) (hK114 : CmpOk X 114) (k : Nat) : TblS Try.prog C X (meta_Lay.T k) := by
  refine tblOf_sound ?_
  intro e he
  rcases List.mem_cons.1 he with rfl | he
  · exact wr_told (tree_Right.told hX hK114 k)
  rcases List.mem_cons.1 he with rfl | he
  · exact wr_told (meta_bytes.told hX k)
  rcases List.mem_cons.1 he with rfl | he
  · exact wr_told (slices_Concat_byte_byte.told hX k)
  exact absurd he List.not_mem_nil
set_option maxRecDepth 100000 in
theorem meta_Lay.l1_pass {C : FuncId → Bool} {X : CallF} (hX : XOk C X) (hK114 : CmpOk X 114) (k n : Nat) : PassS Try.prog C X 62 (.loop meta_Lay.c250686) (lrun [(17, .sl), (18, (.int .i64)), (19, (.int .i64)), (48, .sl), (49, (.int .i64)), (4, .sl), (50, (.int .i64))] none [(4, .sl)] 2 (fun a h => meta_Lay.l1 k n (a.1) (a.2.1) (a.2.2.1) (a.2.2.2.1) (a.2.2.2.2.1) (a.2.2.2.2.2.1) (a.2.2.2.2.2.2) h)) :=
  loop_pass (ins := [(17, .sl), (18, (.int .i64)), (19, (.int .i64)), (48, .sl), (49, (.int .i64)), (4, .sl), (50, (.int .i64))]) (rets := none) (outs := [(4, .sl)]) (id := 2) (tbl := meta_Lay.T k) (an := meta_Lay.an k) (pb := 501372) (meta_Lay.TS hX hK114 k) (fun n => (fun a h => meta_Lay.l1 k n (a.1) (a.2.1) (a.2.2.1) (a.2.2.2.1) (a.2.2.2.2.1) (a.2.2.2.2.2.1) (a.2.2.2.2.2.2) h)) (fun a h => rfl) (fun n a h => by kernel_rfl)
    (by
      have e : need (meta_Lay.an k) meta_Lay.c250686 501372 = [] := by kernel_rfl
      rw [e]; intro q hq; cases hq) n
set_option maxRecDepth 100000 in
theorem meta_Lay.l0_pass {C : FuncId → Bool} {X : CallF} (hX : XOk C X) (hK114 : CmpOk X 114) (k n : Nat) : PassS Try.prog C X 62 (.loop meta_Lay.c122) (lrun [(17, .sl), (18, (.int .i64)), (4, .sl), (19, (.int .i64))] none [(4, .sl)] 0 (fun a h => meta_Lay.l0 k n (a.1) (a.2.1) (a.2.2.1) (a.2.2.2) h)) :=
  loop_pass (ins := [(17, .sl), (18, (.int .i64)), (4, .sl), (19, (.int .i64))]) (rets := none) (outs := [(4, .sl)]) (id := 0) (tbl := meta_Lay.T k) (an := meta_Lay.an k) (pb := 244) (meta_Lay.TS hX hK114 k) (fun n => (fun a h => meta_Lay.l0 k n (a.1) (a.2.1) (a.2.2.1) (a.2.2.2) h)) (fun a h => rfl) (fun n a h => by kernel_rfl)
    (by
      have e : need (meta_Lay.an k) meta_Lay.c122 244 = [(Code.loop meta_Lay.c250686, lrun [(17, .sl), (18, (.int .i64)), (19, (.int .i64)), (48, .sl), (49, (.int .i64)), (4, .sl), (50, (.int .i64))] none [(4, .sl)] 2 (fun a h => meta_Lay.l1 k k (a.1) (a.2.1) (a.2.2.1) (a.2.2.2.1) (a.2.2.2.2.1) (a.2.2.2.2.2.1) (a.2.2.2.2.2.2) h))] := by kernel_rfl
      rw [e]; intro q hq
      rcases List.mem_cons.1 hq with rfl | hq
      · exact meta_Lay.l1_pass hX hK114 k k
      cases hq) n
set_option maxRecDepth 100000 in
theorem meta_Lay.eq (k : Nat) (a : RT [.sl]) (h : H) : (fun a h => meta_Lay.f k a h) a h = kfun Try.prog (meta_Lay.T k) (meta_Lay.an k) (RT [.sl, (.int .i64)] × H) Try.f39 (encL [.sl] a) h (fun vs h' => (decL [.sl, (.int .i64)] vs).bind fun x => some (x, h')) := by kernel_rfl
set_option maxRecDepth 100000 in
theorem meta_Lay.told {C : FuncId → Bool} {X : CallF} (hX : XOk C X) (hK114 : CmpOk X 114) (k : Nat) : Den.Told Try.prog C X 39 [.sl] [.sl, (.int .i64)] (fun a h => meta_Lay.f k a h) :=
  told_of fun a h q e => fn_of (c := meta_Lay.body) (meta_Lay.TS hX hK114 k) Try.func39 (by kernel_rfl) (hX.no 39 _ h (by decide))
    (by
      have e : need (meta_Lay.an k) meta_Lay.body 1 = [(Code.loop meta_Lay.c122, lrun [(17, .sl), (18, (.int .i64)), (4, .sl), (19, (.int .i64))] none [(4, .sl)] 0 (fun a h => meta_Lay.l0 k k (a.1) (a.2.1) (a.2.2.1) (a.2.2.2) h))] := by kernel_rfl
      rw [e]; intro q hq
      rcases List.mem_cons.1 hq with rfl | hq
      · exact meta_Lay.l0_pass hX hK114 k k
      cases hq)
    ((meta_Lay.eq k a h).symm.trans e)
/-! ### (*corbel/meta.reader).volume -/
noncomputable def meta_reader_volume.l0 (k : Nat) (n : Nat) : (Option Addr) → (Option Addr) → Sl → Int → Int → H → Option ((Unit) × H) :=
  Nat.rec (motive := fun _ => (Option Addr) → (Option Addr) → Sl → Int → Int → H → Option ((Unit) × H)) (fun _ _ _ _ _ _ => none) (fun _ ih x12 x13 x14 x15 x16 h17 => cond (decide (x16 < x15))
      ((asP (ixs 1 x14.a x14.n x16)).bind fun p18 =>
    (asI .u8 (ldc h17 p18)).bind fun n19 =>
    (asP (fadd 4 x13)).bind fun p20 =>
    (asS (ldc h17 p20)).bind fun s21 =>
    (asS2 (apv 3 1 8 (Value.slice s21.a s21.n s21.c) (Value.slice (some ⟨h17.next, 0, none⟩) 1 1) (newR h17 3 1 [(Value.int .i64 (wrapA .i64 n19))]))).bind fun q22 =>
    (asP (fadd 4 x13)).bind fun p23 =>
    (stv 1 q22.2 p23 [(Value.slice q22.1.a q22.1.n q22.1.c)]).bind fun q24 =>
    ih x12 x13 x14 x15 (wrapA .i64 (x16 + (1 : Int))) q24.2)
      (some ((), h17))) n
theorem meta_reader_volume.l0_zero (k : Nat) (x12 : Option Addr) (x13 : Option Addr) (x14 : Sl) (x15 : Int) (x16 : Int) (h17 : H) : meta_reader_volume.l0 k 0 x12 x13 x14 x15 x16 h17 = none := rfl
theorem meta_reader_volume.l0_succ (k n : Nat) (x12 : Option Addr) (x13 : Option Addr) (x14 : Sl) (x15 : Int) (x16 : Int) (h17 : H) : meta_reader_volume.l0 k (n + 1) x12 x13 x14 x15 x16 h17 = (cond (decide (x16 < x15))
      ((asP (ixs 1 x14.a x14.n x16)).bind fun p18 =>
    (asI .u8 (ldc h17 p18)).bind fun n19 =>
    (asP (fadd 4 x13)).bind fun p20 =>
    (asS (ldc h17 p20)).bind fun s21 =>
    (asS2 (apv 3 1 8 (Value.slice s21.a s21.n s21.c) (Value.slice (some ⟨h17.next, 0, none⟩) 1 1) (newR h17 3 1 [(Value.int .i64 (wrapA .i64 n19))]))).bind fun q22 =>
    (asP (fadd 4 x13)).bind fun p23 =>
    (stv 1 q22.2 p23 [(Value.slice q22.1.a q22.1.n q22.1.c)]).bind fun q24 =>
    meta_reader_volume.l0 k n x12 x13 x14 x15 (wrapA .i64 (x16 + (1 : Int))) q24.2)
      (some ((), h17))) := rfl
noncomputable def meta_reader_volume.f (k : Nat) (a0 : Option Addr) (h : H) : Option (((ByteArray × ByteArray × Bool × Int × Sl)) × H) :=
  (meta_reader_number.f k a0 (1 : Int) (newR h 58 5 [(Value.string (⟨#[]⟩ : ByteArray)), (Value.string (⟨#[]⟩ : ByteArray)), (Value.bool false), (Value.int .i64 (0 : Int)), (Value.slice none 0 0)])).bind fun q1 =>
    (meta_reader_take.f k a0 q1.1 q1.2).bind fun q2 =>
    (asT (txt q2.2 (Value.slice q2.1.a q2.1.n q2.1.c))).bind fun s3 =>
    (meta_reader_number.f k a0 (1 : Int) q2.2).bind fun q4 =>
    (meta_reader_take.f k a0 q4.1 q4.2).bind fun q5 =>
    (asT (txt q5.2 (Value.slice q5.1.a q5.1.n q5.1.c))).bind fun s6 =>
    (meta_reader_number.f k a0 (1 : Int) q5.2).bind fun q7 =>
    (meta_reader_number.f k a0 (2 : Int) q7.2).bind fun q8 =>
    (stv 5 (newR q8.2 58 5 [(Value.string (⟨#[]⟩ : ByteArray)), (Value.string (⟨#[]⟩ : ByteArray)), (Value.bool false), (Value.int .i64 (0 : Int)), (Value.slice none 0 0)]) (some ⟨q8.2.next, 0, none⟩) [(Value.string s3), (Value.string s6), (Value.bool (q7.1 == (1 : Int))), (Value.int .i64 q8.1), (Value.slice none 0 0)]).bind fun q9 =>
    cond (same1 q2.2 q4.2 (some (Value.slice q2.1.a q2.1.n q2.1.c)) && (same1 q4.2 q5.2 (some (Value.slice q2.1.a q2.1.n q2.1.c)) && (same1 q5.2 q7.2 (some (Value.slice q2.1.a q2.1.n q2.1.c)) && (same1 q7.2 q8.2 (some (Value.slice q2.1.a q2.1.n q2.1.c)) && (same1 q5.2 q7.2 (some (Value.slice q5.1.a q5.1.n q5.1.c)) && (same1 q7.2 q8.2 (some (Value.slice q5.1.a q5.1.n q5.1.c)) && (true))))))) ((asI .i64 (ldc q9.2 (some ⟨q8.2.next, 3, none⟩))).bind fun n10 =>
    (meta_reader_take.f k a0 (wrapA .i64 (n10.tdiv (8 : Int))) q9.2).bind fun q11 =>
    (meta_reader_volume.l0 k k (some ⟨h.next, 0, none⟩) (some ⟨q8.2.next, 0, none⟩) q11.1 (Int.ofNat q11.1.n) (0 : Int) q11.2).bind fun w25 =>
    (asSt [.str, .str, .bool, (.int .i64), .sl] (lda 5 w25.2 (some ⟨q8.2.next, 0, none⟩))).bind fun s26 =>
    (stv 5 w25.2 (some ⟨h.next, 0, none⟩) [(Value.string s26.1), (Value.string s26.2.1), (Value.bool s26.2.2.1), (Value.int .i64 s26.2.2.2.1), (Value.slice s26.2.2.2.2.a s26.2.2.2.2.n s26.2.2.2.2.c)]).bind fun q27 =>
    (asSt [.str, .str, .bool, (.int .i64), .sl] (lda 5 q27.2 (some ⟨h.next, 0, none⟩))).bind fun s28 =>
    some ((s28.1, s28.2.1, s28.2.2.1, s28.2.2.2.1, s28.2.2.2.2), q27.2)) none
noncomputable def meta_reader_volume.T (k : Nat) : Tbl := tblOf [⟨77, anyArgs, wr [.ptr, (.int .i64)] [(.int .i64)] (fun a h => meta_reader_number.f k (a.1) (a.2) h)⟩,
  ⟨106, anyArgs, wr [.ptr, (.int .i64)] [.sl] (fun a h => meta_reader_take.f k (a.1) (a.2) h)⟩]
noncomputable def meta_reader_volume.an (k : Nat) (p : Nat) : Option Ann := cond (Nat.beq p 58) (some (.pass [2, 3] (lrun [(2, .ptr), (3, .ptr), (26, .sl), (27, (.int .i64)), (28, (.int .i64))] none [] 0 (fun a h => meta_reader_volume.l0 k k (a.1) (a.2.1) (a.2.2.1) (a.2.2.2.1) (a.2.2.2.2) h))))
  (none)
noncomputable def meta_reader_volume.body : Code := (Try.f80.body).getD .skip
noncomputable def meta_reader_volume.c58 : Code := cat meta_reader_volume.body [1, 1, 0, 1, 0, 0]
set_option maxRecDepth 100000 in
theorem meta_reader_volume.TS {C : FuncId → Bool} {X : CallF} (hX : XOk C X) (k : Nat) : TblS Try.prog C X (meta_reader_volume.T k) := by
  refine tblOf_sound ?_
  intro e he
  rcases List.mem_cons.1 he with rfl | he
  · exact wr_told (meta_reader_number.told hX k)
  rcases List.mem_cons.1 he with rfl | he
  · exact wr_told (meta_reader_take.told hX k)
  exact absurd he List.not_mem_nil
set_option maxRecDepth 100000 in
theorem meta_reader_volume.l0_pass {C : FuncId → Bool} {X : CallF} (hX : XOk C X) (k n : Nat) : PassS Try.prog C X 41 (.loop meta_reader_volume.c58) (lrun [(2, .ptr), (3, .ptr), (26, .sl), (27, (.int .i64)), (28, (.int .i64))] none [] 0 (fun a h => meta_reader_volume.l0 k n (a.1) (a.2.1) (a.2.2.1) (a.2.2.2.1) (a.2.2.2.2) h)) :=
  loop_pass (ins := [(2, .ptr), (3, .ptr), (26, .sl), (27, (.int .i64)), (28, (.int .i64))]) (rets := none) (outs := []) (id := 0) (tbl := meta_reader_volume.T k) (an := meta_reader_volume.an k) (pb := 116) (meta_reader_volume.TS hX k) (fun n => (fun a h => meta_reader_volume.l0 k n (a.1) (a.2.1) (a.2.2.1) (a.2.2.2.1) (a.2.2.2.2) h)) (fun a h => rfl) (fun n a h => by kernel_rfl)
    (by
      have e : need (meta_reader_volume.an k) meta_reader_volume.c58 116 = [] := by kernel_rfl
      rw [e]; intro q hq; cases hq) n
set_option maxRecDepth 100000 in
theorem meta_reader_volume.eq (k : Nat) (a : RT [.ptr]) (h : H) : (fun a h => meta_reader_volume.f k a h) a h = kfun Try.prog (meta_reader_volume.T k) (meta_reader_volume.an k) (RT [(.st [.str, .str, .bool, (.int .i64), .sl])] × H) Try.f80 (encL [.ptr] a) h (fun vs h' => (decL [(.st [.str, .str, .bool, (.int .i64), .sl])] vs).bind fun x => some (x, h')) := by kernel_rfl
set_option maxRecDepth 100000 in
theorem meta_reader_volume.told {C : FuncId → Bool} {X : CallF} (hX : XOk C X) (k : Nat) : Den.Told Try.prog C X 80 [.ptr] [(.st [.str, .str, .bool, (.int .i64), .sl])] (fun a h => meta_reader_volume.f k a h) :=
  told_of fun a h q e => fn_of (c := meta_reader_volume.body) (meta_reader_volume.TS hX k) Try.func80 (by kernel_rfl) (hX.no 80 _ h (by decide))
    (by
      have e : need (meta_reader_volume.an k) meta_reader_volume.body 1 = [(Code.loop meta_reader_volume.c58, lrun [(2, .ptr), (3, .ptr), (26, .sl), (27, (.int .i64)), (28, (.int .i64))] none [] 0 (fun a h => meta_reader_volume.l0 k k (a.1) (a.2.1) (a.2.2.1) (a.2.2.2.1) (a.2.2.2.2) h))] := by kernel_rfl
      rw [e]; intro q hq
      rcases List.mem_cons.1 hq with rfl | hq
      · exact meta_reader_volume.l0_pass hX k k
      cases hq)
    ((meta_reader_volume.eq k a h).symm.trans e)
/-! ### corbel/meta.Read -/
noncomputable def meta_Read.l0 (k : Nat) (n : Nat) : Sl → (Option Addr) → Int → Sl → Int → H → Option ((Sl) × H) :=
  Nat.rec (motive := fun _ => Sl → (Option Addr) → Int → Sl → Int → H → Option ((Sl) × H)) (fun _ _ _ _ _ _ => none) (fun _ ih x2 x3 x4 x5 x6 h7 => cond (decide (x6 < x4))
      ((meta_reader_volume.f k x3 h7).bind fun q8 =>
    (asS2 (apv 58 5 72 (Value.slice x5.a x5.n x5.c) (Value.slice (some ⟨q8.2.next, 0, none⟩) 1 1) (newR q8.2 58 5 [(Value.string q8.1.1), (Value.string q8.1.2.1), (Value.bool q8.1.2.2.1), (Value.int .i64 q8.1.2.2.2.1), (Value.slice q8.1.2.2.2.2.a q8.1.2.2.2.2.n q8.1.2.2.2.2.c)]))).bind fun q9 =>
    ih x2 x3 x4 q9.1 (wrapA .i64 (x6 + (1 : Int))) q9.2)
      (some (x5, h7))) n
theorem meta_Read.l0_zero (k : Nat) (x2 : Sl) (x3 : Option Addr) (x4 : Int) (x5 : Sl) (x6 : Int) (h7 : H) : meta_Read.l0 k 0 x2 x3 x4 x5 x6 h7 = none := rfl
theorem meta_Read.l0_succ (k n : Nat) (x2 : Sl) (x3 : Option Addr) (x4 : Int) (x5 : Sl) (x6 : Int) (h7 : H) : meta_Read.l0 k (n + 1) x2 x3 x4 x5 x6 h7 = (cond (decide (x6 < x4))
      ((meta_reader_volume.f k x3 h7).bind fun q8 =>
    (asS2 (apv 58 5 72 (Value.slice x5.a x5.n x5.c) (Value.slice (some ⟨q8.2.next, 0, none⟩) 1 1) (newR q8.2 58 5 [(Value.string q8.1.1), (Value.string q8.1.2.1), (Value.bool q8.1.2.2.1), (Value.int .i64 q8.1.2.2.2.1), (Value.slice q8.1.2.2.2.2.a q8.1.2.2.2.2.n q8.1.2.2.2.2.c)]))).bind fun q9 =>
    meta_Read.l0 k n x2 x3 x4 q9.1 (wrapA .i64 (x6 + (1 : Int))) q9.2)
      (some (x5, h7))) := rfl
noncomputable def meta_Read.f (k : Nat) (a0 : Sl) (h : H) : Option ((Sl × Int) × H) :=
  (meta_reader_number.f k (some ⟨h.next, 0, none⟩) (1 : Int) (newR h 105 1 [(Value.slice a0.a a0.n a0.c)])).bind fun q1 =>
    (meta_Read.l0 k k a0 (some ⟨h.next, 0, none⟩) q1.1 (⟨none, 0, 0⟩ : Sl) (0 : Int) q1.2).bind fun w10 =>
    (meta_Lay.f k w10.1 w10.2).bind fun q11 =>
    (cond (q11.1.2 != (0 : Int)) (some (true, q11.2))
      ((slices_Equal_byte_byte.f k q11.1.1 a0 q11.2).bind fun q12 =>
    some (!q12.1, q12.2))).bind fun g13 =>
    cond g13.1
      (some (((⟨none, 0, 0⟩ : Sl), (2 : Int)), g13.2))
      (some ((w10.1, (0 : Int)), g13.2))
noncomputable def meta_Read.T (k : Nat) : Tbl := tblOf [⟨77, anyArgs, wr [.ptr, (.int .i64)] [(.int .i64)] (fun a h => meta_reader_number.f k (a.1) (a.2) h)⟩,
  ⟨80, anyArgs, wr [.ptr] [(.st [.str, .str, .bool, (.int .i64), .sl])] (fun a h => meta_reader_volume.f k a h)⟩,
  ⟨39, anyArgs, wr [.sl] [.sl, (.int .i64)] (fun a h => meta_Lay.f k a h)⟩,
  ⟨78, anyArgs, wr [.sl, .sl] [.bool] (fun a h => slices_Equal_byte_byte.f k (a.1) (a.2) h)⟩]
noncomputable def meta_Read.an (k : Nat) (p : Nat) : Option Ann := cond (Nat.beq p 122) (some (.pass [0] (lrun [(0, .sl), (4, .ptr), (12, (.int .i64)), (5, .sl), (13, (.int .i64))] none [(5, .sl)] 0 (fun a h => meta_Read.l0 k k (a.1) (a.2.1) (a.2.2.1) (a.2.2.2.1) (a.2.2.2.2) h))))
  (none)
noncomputable def meta_Read.body : Code := (Try.f40.body).getD .skip
noncomputable def meta_Read.c122 : Code := cat meta_Read.body [1, 1, 1, 0, 1, 0, 0]
set_option maxRecDepth 100000 in
theorem meta_Read.TS {C : FuncId → Bool} {X : CallF} (hX : XOk C X) (hK114 : CmpOk X 114) (k : Nat) : TblS Try.prog C X (meta_Read.T k) := by
  refine tblOf_sound ?_
  intro e he
  rcases List.mem_cons.1 he with rfl | he
  · exact wr_told (meta_reader_number.told hX k)
  rcases List.mem_cons.1 he with rfl | he
  · exact wr_told (meta_reader_volume.told hX k)
  rcases List.mem_cons.1 he with rfl | he
  · exact wr_told (meta_Lay.told hX hK114 k)
  rcases List.mem_cons.1 he with rfl | he
  · exact wr_told (slices_Equal_byte_byte.told hX k)
  exact absurd he List.not_mem_nil
set_option maxRecDepth 100000 in
theorem meta_Read.l0_pass {C : FuncId → Bool} {X : CallF} (hX : XOk C X) (hK114 : CmpOk X 114) (k n : Nat) : PassS Try.prog C X 35 (.loop meta_Read.c122) (lrun [(0, .sl), (4, .ptr), (12, (.int .i64)), (5, .sl), (13, (.int .i64))] none [(5, .sl)] 0 (fun a h => meta_Read.l0 k n (a.1) (a.2.1) (a.2.2.1) (a.2.2.2.1) (a.2.2.2.2) h)) :=
  loop_pass (ins := [(0, .sl), (4, .ptr), (12, (.int .i64)), (5, .sl), (13, (.int .i64))]) (rets := none) (outs := [(5, .sl)]) (id := 0) (tbl := meta_Read.T k) (an := meta_Read.an k) (pb := 244) (meta_Read.TS hX hK114 k) (fun n => (fun a h => meta_Read.l0 k n (a.1) (a.2.1) (a.2.2.1) (a.2.2.2.1) (a.2.2.2.2) h)) (fun a h => rfl) (fun n a h => by kernel_rfl)
    (by
      have e : need (meta_Read.an k) meta_Read.c122 244 = [] := by kernel_rfl
      rw [e]; intro q hq; cases hq) n
set_option maxRecDepth 100000 in
theorem meta_Read.eq (k : Nat) (a : RT [.sl]) (h : H) : (fun a h => meta_Read.f k a h) a h = kfun Try.prog (meta_Read.T k) (meta_Read.an k) (RT [.sl, (.int .i64)] × H) Try.f40 (encL [.sl] a) h (fun vs h' => (decL [.sl, (.int .i64)] vs).bind fun x => some (x, h')) := by kernel_rfl
set_option maxRecDepth 100000 in
theorem meta_Read.told {C : FuncId → Bool} {X : CallF} (hX : XOk C X) (hK114 : CmpOk X 114) (k : Nat) : Den.Told Try.prog C X 40 [.sl] [.sl, (.int .i64)] (fun a h => meta_Read.f k a h) :=
  told_of fun a h q e => fn_of (c := meta_Read.body) (meta_Read.TS hX hK114 k) Try.func40 (by kernel_rfl) (hX.no 40 _ h (by decide))
    (by
      have e : need (meta_Read.an k) meta_Read.body 1 = [(Code.loop meta_Read.c122, lrun [(0, .sl), (4, .ptr), (12, (.int .i64)), (5, .sl), (13, (.int .i64))] none [(5, .sl)] 0 (fun a h => meta_Read.l0 k k (a.1) (a.2.1) (a.2.2.1) (a.2.2.2.1) (a.2.2.2.2) h))] := by kernel_rfl
      rw [e]; intro q hq
      rcases List.mem_cons.1 hq with rfl | hq
      · exact meta_Read.l0_pass hX hK114 k k
      cases hq)
    ((meta_Read.eq k a h).symm.trans e)
/-! ### corbel/corbelref7.SameInts -/
noncomputable def corbelref7_SameInts.l0 (k : Nat) (n : Nat) : Sl → Sl → Int → H → Option (((Bool) ⊕ (Unit)) × H) :=
  Nat.rec (motive := fun _ => Sl → Sl → Int → H → Option (((Bool) ⊕ (Unit)) × H)) (fun _ _ _ _ => none) (fun _ ih x1 x2 x3 h4 => cond (decide (x3 < (Int.ofNat x1.n)))
      ((asP (ixs 1 x1.a x1.n x3)).bind fun p5 =>
    (asI .i64 (ldc h4 p5)).bind fun n6 =>
    (asP (ixs 1 x2.a x2.n x3)).bind fun p7 =>
    (asI .i64 (ldc h4 p7)).bind fun n8 =>
    cond (n6 != n8)
      (some (Sum.inl false, h4))
      (ih x1 x2 (wrapA .i64 (x3 + (1 : Int))) h4))
      (some (Sum.inr (), h4))) n
theorem corbelref7_SameInts.l0_zero (k : Nat) (x1 : Sl) (x2 : Sl) (x3 : Int) (h4 : H) : corbelref7_SameInts.l0 k 0 x1 x2 x3 h4 = none := rfl
theorem corbelref7_SameInts.l0_succ (k n : Nat) (x1 : Sl) (x2 : Sl) (x3 : Int) (h4 : H) : corbelref7_SameInts.l0 k (n + 1) x1 x2 x3 h4 = (cond (decide (x3 < (Int.ofNat x1.n)))
      ((asP (ixs 1 x1.a x1.n x3)).bind fun p5 =>
    (asI .i64 (ldc h4 p5)).bind fun n6 =>
    (asP (ixs 1 x2.a x2.n x3)).bind fun p7 =>
    (asI .i64 (ldc h4 p7)).bind fun n8 =>
    cond (n6 != n8)
      (some (Sum.inl false, h4))
      (corbelref7_SameInts.l0 k n x1 x2 (wrapA .i64 (x3 + (1 : Int))) h4))
      (some (Sum.inr (), h4))) := rfl
noncomputable def corbelref7_SameInts.f (k : Nat) (a0 : Sl) (a1 : Sl) (h : H) : Option ((Bool) × H) :=
  cond ((Int.ofNat a0.n) != (Int.ofNat a1.n))
      (some (false, h))
      ((corbelref7_SameInts.l0 k k a0 a1 (0 : Int) h).bind fun w9 =>
    match w9.1 with
    | .inl r10 => some (r10, w9.2)
    | .inr o11 => some (true, w9.2))
noncomputable def corbelref7_SameInts.T (k : Nat) : Tbl := tblOf []
noncomputable def corbelref7_SameInts.an (k : Nat) (p : Nat) : Option Ann := cond (Nat.beq p 58) (some (.pass [] (lrun [(0, .sl), (1, .sl), (5, (.int .i64))] (some [(4, .bool)]) [] 0 (fun a h => corbelref7_SameInts.l0 k k (a.1) (a.2.1) (a.2.2) h))))
  (none)
noncomputable def corbelref7_SameInts.body : Code := (Try.f27.body).getD .skip
noncomputable def corbelref7_SameInts.c58 : Code := cat corbelref7_SameInts.body [1, 1, 0, 1, 0, 0]
set_option maxRecDepth 100000 in
theorem corbelref7_SameInts.TS {C : FuncId → Bool} {X : CallF} (hX : XOk C X) (k : Nat) : TblS Try.prog C X (corbelref7_SameInts.T k) := by
  refine tblOf_sound ?_
  intro e he
  exact absurd he List.not_mem_nil
set_option maxRecDepth 100000 in
theorem corbelref7_SameInts.l0_pass {C : FuncId → Bool} {X : CallF} (hX : XOk C X) (k n : Nat) : PassS Try.prog C X 26 (.loop corbelref7_SameInts.c58) (lrun [(0, .sl), (1, .sl), (5, (.int .i64))] (some [(4, .bool)]) [] 0 (fun a h => corbelref7_SameInts.l0 k n (a.1) (a.2.1) (a.2.2) h)) :=
  loop_pass (ins := [(0, .sl), (1, .sl), (5, (.int .i64))]) (rets := (some [(4, .bool)])) (outs := []) (id := 0) (tbl := corbelref7_SameInts.T k) (an := corbelref7_SameInts.an k) (pb := 116) (corbelref7_SameInts.TS hX k) (fun n => (fun a h => corbelref7_SameInts.l0 k n (a.1) (a.2.1) (a.2.2) h)) (fun a h => rfl) (fun n a h => by kernel_rfl)
    (by
      have e : need (corbelref7_SameInts.an k) corbelref7_SameInts.c58 116 = [] := by kernel_rfl
      rw [e]; intro q hq; cases hq) n
set_option maxRecDepth 100000 in
theorem corbelref7_SameInts.eq (k : Nat) (a : RT [.sl, .sl]) (h : H) : (fun a h => corbelref7_SameInts.f k (a.1) (a.2) h) a h = kfun Try.prog (corbelref7_SameInts.T k) (corbelref7_SameInts.an k) (RT [.bool] × H) Try.f27 (encL [.sl, .sl] a) h (fun vs h' => (decL [.bool] vs).bind fun x => some (x, h')) := by kernel_rfl
set_option maxRecDepth 100000 in
theorem corbelref7_SameInts.told {C : FuncId → Bool} {X : CallF} (hX : XOk C X) (k : Nat) : Den.Told Try.prog C X 27 [.sl, .sl] [.bool] (fun a h => corbelref7_SameInts.f k (a.1) (a.2) h) :=
  told_of fun a h q e => fn_of (c := corbelref7_SameInts.body) (corbelref7_SameInts.TS hX k) Try.func27 (by kernel_rfl) (hX.no 27 _ h (by decide))
    (by
      have e : need (corbelref7_SameInts.an k) corbelref7_SameInts.body 1 = [(Code.loop corbelref7_SameInts.c58, lrun [(0, .sl), (1, .sl), (5, (.int .i64))] (some [(4, .bool)]) [] 0 (fun a h => corbelref7_SameInts.l0 k k (a.1) (a.2.1) (a.2.2) h))] := by kernel_rfl
      rw [e]; intro q hq
      rcases List.mem_cons.1 hq with rfl | hq
      · exact corbelref7_SameInts.l0_pass hX k k
      cases hq)
    ((corbelref7_SameInts.eq k a h).symm.trans e)
/-! ### corbel/corbelref16.SameVolume -/
noncomputable def corbelref16_SameVolume.f (k : Nat) (a0 : (ByteArray × ByteArray × Bool × Int × Sl)) (a1 : (ByteArray × ByteArray × Bool × Int × Sl)) (h : H) : Option ((Bool) × H) :=
  (asT (ldc (newR (newR h 58 5 [(Value.string a0.1), (Value.string a0.2.1), (Value.bool a0.2.2.1), (Value.int .i64 a0.2.2.2.1), (Value.slice a0.2.2.2.2.a a0.2.2.2.2.n a0.2.2.2.2.c)]) 58 5 [(Value.string a1.1), (Value.string a1.2.1), (Value.bool a1.2.2.1), (Value.int .i64 a1.2.2.2.1), (Value.slice a1.2.2.2.2.a a1.2.2.2.2.n a1.2.2.2.2.c)]) (some ⟨h.next, 0, none⟩))).bind fun s1 =>
    (asT (ldc (newR (newR h 58 5 [(Value.string a0.1), (Value.string a0.2.1), (Value.bool a0.2.2.1), (Value.int .i64 a0.2.2.2.1), (Value.slice a0.2.2.2.2.a a0.2.2.2.2.n a0.2.2.2.2.c)]) 58 5 [(Value.string a1.1), (Value.string a1.2.1), (Value.bool a1.2.2.1), (Value.int .i64 a1.2.2.2.1), (Value.slice a1.2.2.2.2.a a1.2.2.2.2.n a1.2.2.2.2.c)]) (some ⟨(newR h 58 5 [(Value.string a0.1), (Value.string a0.2.1), (Value.bool a0.2.2.1), (Value.int .i64 a0.2.2.2.1), (Value.slice a0.2.2.2.2.a a0.2.2.2.2.n a0.2.2.2.2.c)]).next, 0, none⟩))).bind fun s2 =>
    (cond (s1.toList == s2.toList) ((asT (ldc (newR (newR h 58 5 [(Value.string a0.1), (Value.string a0.2.1), (Value.bool a0.2.2.1), (Value.int .i64 a0.2.2.2.1), (Value.slice a0.2.2.2.2.a a0.2.2.2.2.n a0.2.2.2.2.c)]) 58 5 [(Value.string a1.1), (Value.string a1.2.1), (Value.bool a1.2.2.1), (Value.int .i64 a1.2.2.2.1), (Value.slice a1.2.2.2.2.a a1.2.2.2.2.n a1.2.2.2.2.c)]) (some ⟨h.next, 1, none⟩))).bind fun s3 =>
    (asT (ldc (newR (newR h 58 5 [(Value.string a0.1), (Value.string a0.2.1), (Value.bool a0.2.2.1), (Value.int .i64 a0.2.2.2.1), (Value.slice a0.2.2.2.2.a a0.2.2.2.2.n a0.2.2.2.2.c)]) 58 5 [(Value.string a1.1), (Value.string a1.2.1), (Value.bool a1.2.2.1), (Value.int .i64 a1.2.2.2.1), (Value.slice a1.2.2.2.2.a a1.2.2.2.2.n a1.2.2.2.2.c)]) (some ⟨(newR h 58 5 [(Value.string a0.1), (Value.string a0.2.1), (Value.bool a0.2.2.1), (Value.int .i64 a0.2.2.2.1), (Value.slice a0.2.2.2.2.a a0.2.2.2.2.n a0.2.2.2.2.c)]).next, 1, none⟩))).bind fun s4 =>
    some (s3.toList == s4.toList, (newR (newR h 58 5 [(Value.string a0.1), (Value.string a0.2.1), (Value.bool a0.2.2.1), (Value.int .i64 a0.2.2.2.1), (Value.slice a0.2.2.2.2.a a0.2.2.2.2.n a0.2.2.2.2.c)]) 58 5 [(Value.string a1.1), (Value.string a1.2.1), (Value.bool a1.2.2.1), (Value.int .i64 a1.2.2.2.1), (Value.slice a1.2.2.2.2.a a1.2.2.2.2.n a1.2.2.2.2.c)])))
      (some (false, (newR (newR h 58 5 [(Value.string a0.1), (Value.string a0.2.1), (Value.bool a0.2.2.1), (Value.int .i64 a0.2.2.2.1), (Value.slice a0.2.2.2.2.a a0.2.2.2.2.n a0.2.2.2.2.c)]) 58 5 [(Value.string a1.1), (Value.string a1.2.1), (Value.bool a1.2.2.1), (Value.int .i64 a1.2.2.2.1), (Value.slice a1.2.2.2.2.a a1.2.2.2.2.n a1.2.2.2.2.c)])))).bind fun g5 =>
    (cond g5.1 ((asB (ldc g5.2 (some ⟨h.next, 2, none⟩))).bind fun b6 =>
    (asB (ldc g5.2 (some ⟨(newR h 58 5 [(Value.string a0.1), (Value.string a0.2.1), (Value.bool a0.2.2.1), (Value.int .i64 a0.2.2.2.1), (Value.slice a0.2.2.2.2.a a0.2.2.2.2.n a0.2.2.2.2.c)]).next, 2, none⟩))).bind fun b7 =>
    some (b6 == b7, g5.2))
      (some (false, g5.2))).bind fun g8 =>
    (cond g8.1 ((asI .i64 (ldc g8.2 (some ⟨h.next, 3, none⟩))).bind fun n9 =>
    (asI .i64 (ldc g8.2 (some ⟨(newR h 58 5 [(Value.string a0.1), (Value.string a0.2.1), (Value.bool a0.2.2.1), (Value.int .i64 a0.2.2.2.1), (Value.slice a0.2.2.2.2.a a0.2.2.2.2.n a0.2.2.2.2.c)]).next, 3, none⟩))).bind fun n10 =>
    some (n9 == n10, g8.2))
      (some (false, g8.2))).bind fun g11 =>
    (cond g11.1 ((asS (ldc g11.2 (some ⟨h.next, 4, none⟩))).bind fun s12 =>
    (asS (ldc g11.2 (some ⟨(newR h 58 5 [(Value.string a0.1), (Value.string a0.2.1), (Value.bool a0.2.2.1), (Value.int .i64 a0.2.2.2.1), (Value.slice a0.2.2.2.2.a a0.2.2.2.2.n a0.2.2.2.2.c)]).next, 4, none⟩))).bind fun s13 =>
    (corbelref7_SameInts.f k s12 s13 g11.2).bind fun q14 =>
    some (q14.1, q14.2))
      (some (false, g11.2))).bind fun g15 =>
    some (g15.1, g15.2)
noncomputable def corbelref16_SameVolume.T (k : Nat) : Tbl := tblOf [⟨27, anyArgs, wr [.sl, .sl] [.bool] (fun a h => corbelref7_SameInts.f k (a.1) (a.2) h)⟩]
noncomputable def corbelref16_SameVolume.an (k : Nat) (p : Nat) : Option Ann := none
noncomputable def corbelref16_SameVolume.body : Code := (Try.f58.body).getD .skip
set_option maxRecDepth 100000 in
theorem corbelref16_SameVolume.TS {C : FuncId → Bool} {X : CallF} (hX : XOk C X) (k : Nat) : TblS Try.prog C X (corbelref16_SameVolume.T k) := by
  refine tblOf_sound ?_
  intro e he
  rcases List.mem_cons.1 he with rfl | he
  · exact wr_told (corbelref7_SameInts.told hX k)
  exact absurd he List.not_mem_nil
set_option maxRecDepth 100000 in
theorem corbelref16_SameVolume.eq (k : Nat) (a : RT [(.st [.str, .str, .bool, (.int .i64), .sl]), (.st [.str, .str, .bool, (.int .i64), .sl])]) (h : H) : (fun a h => corbelref16_SameVolume.f k (a.1) (a.2) h) a h = kfun Try.prog (corbelref16_SameVolume.T k) (corbelref16_SameVolume.an k) (RT [.bool] × H) Try.f58 (encL [(.st [.str, .str, .bool, (.int .i64), .sl]), (.st [.str, .str, .bool, (.int .i64), .sl])] a) h (fun vs h' => (decL [.bool] vs).bind fun x => some (x, h')) := by kernel_rfl
set_option maxRecDepth 100000 in
theorem corbelref16_SameVolume.told {C : FuncId → Bool} {X : CallF} (hX : XOk C X) (k : Nat) : Den.Told Try.prog C X 58 [(.st [.str, .str, .bool, (.int .i64), .sl]), (.st [.str, .str, .bool, (.int .i64), .sl])] [.bool] (fun a h => corbelref16_SameVolume.f k (a.1) (a.2) h) :=
  told_of fun a h q e => fn_of (c := corbelref16_SameVolume.body) (corbelref16_SameVolume.TS hX k) Try.func58 (by kernel_rfl) (hX.no 58 _ h (by decide))
    (by
      have e : need (corbelref16_SameVolume.an k) corbelref16_SameVolume.body 1 = [] := by kernel_rfl
      rw [e]; intro q hq; cases hq)
    ((corbelref16_SameVolume.eq k a h).symm.trans e)
/-! ### corbel/corbelref16.SameTree -/
noncomputable def corbelref16_SameTree.l0 (k : Nat) (n : Nat) : Sl → Sl → Int → H → Option (((Bool) ⊕ (Unit)) × H) :=
  Nat.rec (motive := fun _ => Sl → Sl → Int → H → Option (((Bool) ⊕ (Unit)) × H)) (fun _ _ _ _ => none) (fun _ ih x1 x2 x3 h4 => cond (decide (x3 < (Int.ofNat x1.n)))
      ((asP (ixs 5 x1.a x1.n x3)).bind fun p5 =>
    (asSt [.str, .str, .bool, (.int .i64), .sl] (lda 5 h4 p5)).bind fun s6 =>
    (asP (ixs 5 x2.a x2.n x3)).bind fun p7 =>
    (asSt [.str, .str, .bool, (.int .i64), .sl] (lda 5 h4 p7)).bind fun s8 =>
    (corbelref16_SameVolume.f k (s6.1, s6.2.1, s6.2.2.1, s6.2.2.2.1, s6.2.2.2.2) (s8.1, s8.2.1, s8.2.2.1, s8.2.2.2.1, s8.2.2.2.2) h4).bind fun q9 =>
    cond (!q9.1)
      (some (Sum.inl false, q9.2))
      (ih x1 x2 (wrapA .i64 (x3 + (1 : Int))) q9.2))
      (some (Sum.inr (), h4))) n
theorem corbelref16_SameTree.l0_zero (k : Nat) (x1 : Sl) (x2 : Sl) (x3 : Int) (h4 : H) : corbelref16_SameTree.l0 k 0 x1 x2 x3 h4 = none := rfl
theorem corbelref16_SameTree.l0_succ (k n : Nat) (x1 : Sl) (x2 : Sl) (x3 : Int) (h4 : H) : corbelref16_SameTree.l0 k (n + 1) x1 x2 x3 h4 = (cond (decide (x3 < (Int.ofNat x1.n)))
      ((asP (ixs 5 x1.a x1.n x3)).bind fun p5 =>
    (asSt [.str, .str, .bool, (.int .i64), .sl] (lda 5 h4 p5)).bind fun s6 =>
    (asP (ixs 5 x2.a x2.n x3)).bind fun p7 =>
    (asSt [.str, .str, .bool, (.int .i64), .sl] (lda 5 h4 p7)).bind fun s8 =>
    (corbelref16_SameVolume.f k (s6.1, s6.2.1, s6.2.2.1, s6.2.2.2.1, s6.2.2.2.2) (s8.1, s8.2.1, s8.2.2.1, s8.2.2.2.1, s8.2.2.2.2) h4).bind fun q9 =>
    cond (!q9.1)
      (some (Sum.inl false, q9.2))
      (corbelref16_SameTree.l0 k n x1 x2 (wrapA .i64 (x3 + (1 : Int))) q9.2))
      (some (Sum.inr (), h4))) := rfl
noncomputable def corbelref16_SameTree.f (k : Nat) (a0 : Sl) (a1 : Sl) (h : H) : Option ((Bool) × H) :=
  cond ((Int.ofNat a0.n) != (Int.ofNat a1.n))
      (some (false, h))
      ((corbelref16_SameTree.l0 k k a0 a1 (0 : Int) h).bind fun w10 =>
    match w10.1 with
    | .inl r11 => some (r11, w10.2)
    | .inr o12 => some (true, w10.2))
noncomputable def corbelref16_SameTree.T (k : Nat) : Tbl := tblOf [⟨58, anyArgs, wr [(.st [.str, .str, .bool, (.int .i64), .sl]), (.st [.str, .str, .bool, (.int .i64), .sl])] [.bool] (fun a h => corbelref16_SameVolume.f k (a.1) (a.2) h)⟩]
noncomputable def corbelref16_SameTree.an (k : Nat) (p : Nat) : Option Ann := cond (Nat.beq p 58) (some (.pass [] (lrun [(0, .sl), (1, .sl), (5, (.int .i64))] (some [(4, .bool)]) [] 0 (fun a h => corbelref16_SameTree.l0 k k (a.1) (a.2.1) (a.2.2) h))))
  (none)
noncomputable def corbelref16_SameTree.body : Code := (Try.f42.body).getD .skip
noncomputable def corbelref16_SameTree.c58 : Code := cat corbelref16_SameTree.body [1, 1, 0, 1, 0, 0]
set_option maxRecDepth 100000 in
theorem corbelref16_SameTree.TS {C : FuncId → Bool} {X : CallF} (hX : XOk C X) (k : Nat) : TblS Try.prog C X (corbelref16_SameTree.T k) := by
  refine tblOf_sound ?_
  intro e he
  rcases List.mem_cons.1 he with rfl | he
  · exact wr_told (corbelref16_SameVolume.told hX k)
  exact absurd he List.not_mem_nil
set_option maxRecDepth 100000 in
theorem corbelref16_SameTree.l0_pass {C : FuncId → Bool} {X : CallF} (hX : XOk C X) (k n : Nat) : PassS Try.prog C X 27 (.loop corbelref16_SameTree.c58) (lrun [(0, .sl), (1, .sl), (5, (.int .i64))] (some [(4, .bool)]) [] 0 (fun a h => corbelref16_SameTree.l0 k n (a.1) (a.2.1) (a.2.2) h)) :=
  loop_pass (ins := [(0, .sl), (1, .sl), (5, (.int .i64))]) (rets := (some [(4, .bool)])) (outs := []) (id := 0) (tbl := corbelref16_SameTree.T k) (an := corbelref16_SameTree.an k) (pb := 116) (corbelref16_SameTree.TS hX k) (fun n => (fun a h => corbelref16_SameTree.l0 k n (a.1) (a.2.1) (a.2.2) h)) (fun a h => rfl) (fun n a h => by kernel_rfl)
    (by
      have e : need (corbelref16_SameTree.an k) corbelref16_SameTree.c58 116 = [] := by kernel_rfl
      rw [e]; intro q hq; cases hq) n
set_option maxRecDepth 100000 in
theorem corbelref16_SameTree.eq (k : Nat) (a : RT [.sl, .sl]) (h : H) : (fun a h => corbelref16_SameTree.f k (a.1) (a.2) h) a h = kfun Try.prog (corbelref16_SameTree.T k) (corbelref16_SameTree.an k) (RT [.bool] × H) Try.f42 (encL [.sl, .sl] a) h (fun vs h' => (decL [.bool] vs).bind fun x => some (x, h')) := by kernel_rfl
set_option maxRecDepth 100000 in
theorem corbelref16_SameTree.told {C : FuncId → Bool} {X : CallF} (hX : XOk C X) (k : Nat) : Den.Told Try.prog C X 42 [.sl, .sl] [.bool] (fun a h => corbelref16_SameTree.f k (a.1) (a.2) h) :=
  told_of fun a h q e => fn_of (c := corbelref16_SameTree.body) (corbelref16_SameTree.TS hX k) Try.func42 (by kernel_rfl) (hX.no 42 _ h (by decide))
    (by
      have e : need (corbelref16_SameTree.an k) corbelref16_SameTree.body 1 = [(Code.loop corbelref16_SameTree.c58, lrun [(0, .sl), (1, .sl), (5, (.int .i64))] (some [(4, .bool)]) [] 0 (fun a h => corbelref16_SameTree.l0 k k (a.1) (a.2.1) (a.2.2) h))] := by kernel_rfl
      rw [e]; intro q hq
      rcases List.mem_cons.1 hq with rfl | hq
      · exact corbelref16_SameTree.l0_pass hX k k
      cases hq)
    ((corbelref16_SameTree.eq k a h).symm.trans e)
/-! ### slices.Chunk[[]byte,byte] -/
noncomputable def slices_Chunk_byte_byte.f (k : Nat) (a0 : Sl) (a1 : Int) (h : H) : Option ((Option Addr × Option Addr) × H) :=
  (asI .i64 (ldc (newR (newR h 30 1 [(Value.slice a0.a a0.n a0.c)]) 3 1 [(Value.int .i64 a1)]) (some ⟨(newR h 30 1 [(Value.slice a0.a a0.n a0.c)]).next, 0, none⟩))).bind fun n1 =>
    (cond (decide (n1 < (1 : Int)))
      (none)
      (some ((), (newR (newR h 30 1 [(Value.slice a0.a a0.n a0.c)]) 3 1 [(Value.int .i64 a1)]))) : Option ((Unit) × H)).bind fun j2 =>
    some (((some ⟨h.next, 0, none⟩), (some ⟨(newR h 30 1 [(Value.slice a0.a a0.n a0.c)]).next, 0, none⟩)), j2.2)
noncomputable def slices_Chunk_byte_byte.T (k : Nat) : Tbl := tblOf []
noncomputable def slices_Chunk_byte_byte.an (k : Nat) (p : Nat) : Option Ann := cond (Nat.beq p 13) (some (.join [2, 3] none []))
  (none)
noncomputable def slices_Chunk_byte_byte.body : Code := (Try.f81.body).getD .skip
set_option maxRecDepth 100000 in
theorem slices_Chunk_byte_byte.TS {C : FuncId → Bool} {X : CallF} (hX : XOk C X) (k : Nat) : TblS Try.prog C X (slices_Chunk_byte_byte.T k) := by
  refine tblOf_sound ?_
  intro e he
  exact absurd he List.not_mem_nil
set_option maxRecDepth 100000 in
theorem slices_Chunk_byte_byte.eq (k : Nat) (a : RT [.sl, (.int .i64)]) (h : H) : (fun a h => slices_Chunk_byte_byte.f k (a.1) (a.2) h) a h = kfun Try.prog (slices_Chunk_byte_byte.T k) (slices_Chunk_byte_byte.an k) (RT [(.fn 107 2)] × H) Try.f81 (encL [.sl, (.int .i64)] a) h (fun vs h' => (decL [(.fn 107 2)] vs).bind fun x => some (x, h')) := by kernel_rfl
set_option maxRecDepth 100000 in
theorem slices_Chunk_byte_byte.told {C : FuncId → Bool} {X : CallF} (hX : XOk C X) (k : Nat) : Den.Told Try.prog C X 81 [.sl, (.int .i64)] [(.fn 107 2)] (fun a h => slices_Chunk_byte_byte.f k (a.1) (a.2) h) :=
  told_of fun a h q e => fn_of (c := slices_Chunk_byte_byte.body) (slices_Chunk_byte_byte.TS hX k) Try.func81 (by kernel_rfl) (hX.no 81 _ h (by decide))
    (by
      have e : need (slices_Chunk_byte_byte.an k) slices_Chunk_byte_byte.body 1 = [] := by kernel_rfl
      rw [e]; intro q hq; cases hq)
    ((slices_Chunk_byte_byte.eq k a h).symm.trans e)
/-! ### corbel/meta.Cut -/
noncomputable def meta_Cut.l0 (k : Nat) (n : Nat) : (Option Addr) → ChI → Nat → Nat → Nat → H → H → Option H :=
  Nat.rec (motive := fun _ => (Option Addr) → ChI → Nat → Nat → Nat → H → H → Option H) (fun _ _ _ _ _ _ _ => none) (fun _ ih x2 c b o i w h => cond (Nat.ble c.len (i * c.n)) (some h) ((asI2 .i64 (cpy 1 (Value.slice (some ⟨h.next, 0, none⟩) 128 128) (Value.slice (some ⟨b, o + i * c.n, none⟩) (Nat.min c.n (c.len - i * c.n)) (Nat.min c.n (c.len - i * c.n))) (newZ h 5 1 [(Value.int .u8 (0 : Int))] 128))).bind fun q3 =>
    (asS (ldc q3.2 x2)).bind fun s4 =>
    (asS2 (apv 30 1 24 (Value.slice s4.a s4.n s4.c) (Value.slice (some ⟨q3.2.next, 0, none⟩) 1 1) (newR q3.2 30 1 [(Value.slice (some ⟨h.next, 0, none⟩) 128 128)]))).bind fun q5 =>
    (stv 1 q5.2 x2 [(Value.slice q5.1.a q5.1.n q5.1.c)]).bind fun q6 =>
    cond (sameVer w q6.2 c.bs && sameVer w q6.2 c.bn) (ih x2 c b o (i + 1) w q6.2) none)) n
theorem meta_Cut.l0_zero (k : Nat) (x2 : Option Addr) (c : ChI) (b : Nat) (o : Nat) (i : Nat) (w : H) (h : H) : meta_Cut.l0 k 0 x2 c b o i w h = none := rfl
theorem meta_Cut.l0_succ (k n : Nat) (x2 : Option Addr) (c : ChI) (b : Nat) (o : Nat) (i : Nat) (w : H) (h : H) : meta_Cut.l0 k (n + 1) x2 c b o i w h = (cond (Nat.ble c.len (i * c.n)) (some h) ((asI2 .i64 (cpy 1 (Value.slice (some ⟨h.next, 0, none⟩) 128 128) (Value.slice (some ⟨b, o + i * c.n, none⟩) (Nat.min c.n (c.len - i * c.n)) (Nat.min c.n (c.len - i * c.n))) (newZ h 5 1 [(Value.int .u8 (0 : Int))] 128))).bind fun q3 =>
    (asS (ldc q3.2 x2)).bind fun s4 =>
    (asS2 (apv 30 1 24 (Value.slice s4.a s4.n s4.c) (Value.slice (some ⟨q3.2.next, 0, none⟩) 1 1) (newR q3.2 30 1 [(Value.slice (some ⟨h.next, 0, none⟩) 128 128)]))).bind fun q5 =>
    (stv 1 q5.2 x2 [(Value.slice q5.1.a q5.1.n q5.1.c)]).bind fun q6 =>
    cond (sameVer w q6.2 c.bs && sameVer w q6.2 c.bn) (meta_Cut.l0 k n x2 c b o (i + 1) w q6.2) none)) := rfl
noncomputable def meta_Cut.f (k : Nat) (a0 : Sl) (h : H) : Option ((Sl) × H) :=
  (slices_Chunk_byte_byte.f k a0 (128 : Int) (newR h 63 1 [(Value.slice none 0 0)])).bind fun q1 =>
    (chInfo q1.2 (q1.1.1, q1.1.2)).bind fun c8 =>
    (chGo (fun b0 o0 w0 h0 => meta_Cut.l0 k k (some ⟨h.next, 0, none⟩) c8 b0 o0 0 w0 h0) c8 q1.2).bind fun h7 =>
    (asS (ldc h7 (some ⟨h.next, 0, none⟩))).bind fun s9 =>
    some (s9, h7)
noncomputable def meta_Cut.T (k : Nat) : Tbl := tblOf [⟨81, anyArgs, wr [.sl, (.int .i64)] [(.fn 107 2)] (fun a h => slices_Chunk_byte_byte.f k (a.1) (a.2) h)⟩]
noncomputable def meta_Cut.an (k : Nat) (p : Nat) : Option Ann := cond (Nat.beq p 58) (some (.pass [3] (chRun 107 (.tmp 7) [(3, .ptr)] (fun a c b o w h => (fun a c b o i w h => meta_Cut.l0 k k a c b o i w h) a c b o 0 w h))))
  (none)
noncomputable def meta_Cut.body : Code := (Try.f41.body).getD .skip
noncomputable def meta_Cut.c116 : Code := cat meta_Cut.body [1, 1, 0, 1, 0, 0]
noncomputable def meta_Cut.c117 : Code := cat meta_Cut.body [1, 1, 0, 1, 0, 1]
set_option maxRecDepth 100000 in
theorem meta_Cut.TS {C : FuncId → Bool} {X : CallF} (hX : XOk C X) (k : Nat) : TblS Try.prog C X (meta_Cut.T k) := by
  refine tblOf_sound ?_
  intro e he
  rcases List.mem_cons.1 he with rfl | he
  · exact wr_told (slices_Chunk_byte_byte.told hX k)
  exact absurd he List.not_mem_nil
set_option maxRecDepth 100000 in
theorem meta_Cut.l0_pass {C : FuncId → Bool} {X : CallF} (hX : XOk C X) (k n : Nat) : PassS Try.prog C X 18 (Code.rangeFunc (.tmp 7) #[8] meta_Cut.c116 meta_Cut.c117) (chRun 107 (.tmp 7) [(3, .ptr)] (fun a c b o w h => (fun a c b o i w h => meta_Cut.l0 k n a c b o i w h) a c b o 0 w h)) :=
  chunk_pass (ins := [(3, .ptr)]) (ck := 107) (tbl := meta_Cut.T k) (an := meta_Cut.an k) (pa := 116) (pb := 117) (meta_Cut.TS hX k) (hX.chunk 107 rfl) (by kernel_rfl) rfl (fun n => (fun a c b o i w h => meta_Cut.l0 k n a c b o i w h)) (fun a c b o i w h => rfl) (fun n a c b o i w h => by kernel_rfl)
    (by
      have e : need (meta_Cut.an k) meta_Cut.c116 116 = [] := by kernel_rfl
      rw [e]; intro q hq; cases hq)
    (by
      have e : need (meta_Cut.an k) meta_Cut.c117 117 = [] := by kernel_rfl
      rw [e]; intro q hq; cases hq) n
set_option maxRecDepth 100000 in
theorem meta_Cut.eq (k : Nat) (a : RT [.sl]) (h : H) : (fun a h => meta_Cut.f k a h) a h = kfun Try.prog (meta_Cut.T k) (meta_Cut.an k) (RT [.sl] × H) Try.f41 (encL [.sl] a) h (fun vs h' => (decL [.sl] vs).bind fun x => some (x, h')) := by kernel_rfl
set_option maxRecDepth 100000 in
theorem meta_Cut.told {C : FuncId → Bool} {X : CallF} (hX : XOk C X) (k : Nat) : Den.Told Try.prog C X 41 [.sl] [.sl] (fun a h => meta_Cut.f k a h) :=
  told_of fun a h q e => fn_of (c := meta_Cut.body) (meta_Cut.TS hX k) Try.func41 (by kernel_rfl) (hX.no 41 _ h (by decide))
    (by
      have e : need (meta_Cut.an k) meta_Cut.body 1 = [((Code.rangeFunc (.tmp 7) #[8] meta_Cut.c116 meta_Cut.c117), (chRun 107 (.tmp 7) [(3, .ptr)] (fun a c b o w h => (fun a c b o i w h => meta_Cut.l0 k k a c b o i w h) a c b o 0 w h)))] := by kernel_rfl
      rw [e]; intro q hq
      rcases List.mem_cons.1 hq with rfl | hq
      · exact meta_Cut.l0_pass hX k k
      cases hq)
    ((meta_Cut.eq k a h).symm.trans e)
/-! ### corbel/corbellaw19.MetaBack -/
noncomputable def corbellaw19_MetaBack.l1 (k : Nat) (n : Nat) : Sl → Int → Int → H → Option (((Bool) ⊕ (Unit)) × H) :=
  Nat.rec (motive := fun _ => Sl → Int → Int → H → Option (((Bool) ⊕ (Unit)) × H)) (fun _ _ _ _ => none) (fun _ ih x34 x35 x36 h37 => cond (decide (x36 < x35))
      ((asP (ixs 1 x34.a x34.n x36)).bind fun p38 =>
    (asI .u8 (ldc h37 p38)).bind fun n39 =>
    cond (n39 != (0 : Int))
      (some (Sum.inl false, h37))
      (ih x34 x35 (wrapA .i64 (x36 + (1 : Int))) h37))
      (some (Sum.inr (), h37))) n
theorem corbellaw19_MetaBack.l1_zero (k : Nat) (x34 : Sl) (x35 : Int) (x36 : Int) (h37 : H) : corbellaw19_MetaBack.l1 k 0 x34 x35 x36 h37 = none := rfl
theorem corbellaw19_MetaBack.l1_succ (k n : Nat) (x34 : Sl) (x35 : Int) (x36 : Int) (h37 : H) : corbellaw19_MetaBack.l1 k (n + 1) x34 x35 x36 h37 = (cond (decide (x36 < x35))
      ((asP (ixs 1 x34.a x34.n x36)).bind fun p38 =>
    (asI .u8 (ldc h37 p38)).bind fun n39 =>
    cond (n39 != (0 : Int))
      (some (Sum.inl false, h37))
      (corbellaw19_MetaBack.l1 k n x34 x35 (wrapA .i64 (x36 + (1 : Int))) h37))
      (some (Sum.inr (), h37))) := rfl
noncomputable def corbellaw19_MetaBack.l0 (k : Nat) (n : Nat) : Sl → Sl → Int → Sl → Int → H → Option (((Bool) ⊕ (Sl)) × H) :=
  Nat.rec (motive := fun _ => Sl → Sl → Int → Sl → Int → H → Option (((Bool) ⊕ (Sl)) × H)) (fun _ _ _ _ _ _ => none) (fun _ ih x16 x17 x18 x19 x20 h21 => cond (decide (x20 < x18))
      ((asP (ixs 1 x17.a x17.n x20)).bind fun p22 =>
    (asS (ldc h21 p22)).bind fun s23 =>
    cond ((Int.ofNat s23.n) != (128 : Int))
      (some (Sum.inl false, h21))
      ((asS2 (apv 5 1 1 (Value.slice x19.a x19.n x19.c) (Value.slice s23.a s23.n s23.c) h21)).bind fun q24 =>
    ih x16 x17 x18 q24.1 (wrapA .i64 (x20 + (1 : Int))) q24.2))
      (some (Sum.inr x19, h21))) n
theorem corbellaw19_MetaBack.l0_zero (k : Nat) (x16 : Sl) (x17 : Sl) (x18 : Int) (x19 : Sl) (x20 : Int) (h21 : H) : corbellaw19_MetaBack.l0 k 0 x16 x17 x18 x19 x20 h21 = none := rfl
theorem corbellaw19_MetaBack.l0_succ (k n : Nat) (x16 : Sl) (x17 : Sl) (x18 : Int) (x19 : Sl) (x20 : Int) (h21 : H) : corbellaw19_MetaBack.l0 k (n + 1) x16 x17 x18 x19 x20 h21 = (cond (decide (x20 < x18))
      ((asP (ixs 1 x17.a x17.n x20)).bind fun p22 =>
    (asS (ldc h21 p22)).bind fun s23 =>
    cond ((Int.ofNat s23.n) != (128 : Int))
      (some (Sum.inl false, h21))
      ((asS2 (apv 5 1 1 (Value.slice x19.a x19.n x19.c) (Value.slice s23.a s23.n s23.c) h21)).bind fun q24 =>
    corbellaw19_MetaBack.l0 k n x16 x17 x18 q24.1 (wrapA .i64 (x20 + (1 : Int))) q24.2))
      (some (Sum.inr x19, h21))) := rfl
noncomputable def corbellaw19_MetaBack.f (k : Nat) (a0 : Sl) (a1 : Sl) (h : H) : Option ((Bool) × H) :=
  (corbellaw19_of.f k a0 h).bind fun q1 =>
    (corbellaw19_of.f k a1 q1.2).bind fun q2 =>
    (meta_Lay.f k q1.1 q2.2).bind fun q3 =>
    (meta_Lay.f k q2.1 q3.2).bind fun q4 =>
    (meta_Read.f k q3.1.1 q4.2).bind fun q5 =>
    (cond (!true) (some (true, q5.2, [], []))
      (some (q3.1.2 != (0 : Int), q5.2, [], [])) : Option (Bool × H × LEs × EFs)).bind fun g6 =>
    (cond g6.1 (some (true, g6.2.1, [], []))
      (some (q4.1.2 != (0 : Int), g6.2.1, [], [])) : Option (Bool × H × LEs × EFs)).bind fun g7 =>
    (cond g7.1 (some (true, g7.2.1, [], []))
      (some (q5.1.2 != (0 : Int), g7.2.1, [], [])) : Option (Bool × H × LEs × EFs)).bind fun g8 =>
    (cond g8.1 (some (true, g8.2.1, [], []))
      ((corbelref16_SameTree.f k q5.1.1 q1.1 g8.2.1).bind fun q9 =>
    some (!q9.1, q9.2, [], [])) : Option (Bool × H × LEs × EFs)).bind fun g10 =>
    (cond g10.1 (some (true, g10.2.1, [], []))
      ((asT (txt g10.2.1 (Value.slice q3.1.1.a q3.1.1.n q3.1.1.c))).bind fun s11 =>
    (asT (txt g10.2.1 (Value.slice q4.1.1.a q4.1.1.n q4.1.1.c))).bind fun s12 =>
    (corbelref16_SameTree.f k q1.1 q2.1 g10.2.1).bind fun q13 =>
    some (!((s11.toList == s12.toList) == q13.1), q13.2, (((([(21, none)] ++ [(22, (blkOf (some (Value.slice q3.1.1.a q3.1.1.n q3.1.1.c))))]) ++ [(23, none)]) ++ [(24, (blkOf (some (Value.slice q4.1.1.a q4.1.1.n q4.1.1.c))))]) ++ [(25, none)]), [(28, g10.2.1, q13.2)])) : Option (Bool × H × LEs × EFs)).bind fun g14 =>
    cond (dynL [(21, 28), (22, 28), (23, 28), (24, 28), (25, 28)] ((((g6.2.2.1 ++ g7.2.2.1) ++ g8.2.2.1) ++ g10.2.2.1) ++ g14.2.2.1) ((((g6.2.2.2 ++ g7.2.2.2) ++ g8.2.2.2) ++ g10.2.2.2) ++ g14.2.2.2)) (cond g14.1
      (some (false, g14.2.1))
      ((meta_Cut.f k q3.1.1 g14.2.1).bind fun q15 =>
    (corbellaw19_MetaBack.l0 k k q3.1.1 q15.1 (Int.ofNat q15.1.n) (⟨none, 0, 0⟩ : Sl) (0 : Int) q15.2).bind fun w25 =>
    match w25.1 with
    | .inl r26 => some (r26, w25.2)
    | .inr o27 => (cond (decide ((Int.ofNat o27.n) < (Int.ofNat q3.1.1.n))) (some (true, w25.2, [], []))
      (some (decide ((wrapA .i64 ((Int.ofNat o27.n) - (Int.ofNat q3.1.1.n))) ≥ (128 : Int)), w25.2, [], [])) : Option (Bool × H × LEs × EFs)).bind fun g28 =>
    (cond g28.1 (some (true, g28.2.1, [], []))
      ((asS (subs 1 (Value.slice o27.a o27.n o27.c) none (some (Int.ofNat q3.1.1.n)))).bind fun s29 =>
    (asT (txt g28.2.1 (Value.slice s29.a s29.n s29.c))).bind fun s30 =>
    (asT (txt g28.2.1 (Value.slice q3.1.1.a q3.1.1.n q3.1.1.c))).bind fun s31 =>
    some (!(s30.toList == s31.toList), g28.2.1, [], [])) : Option (Bool × H × LEs × EFs)).bind fun g32 =>
    cond g32.1
      (some (false, g32.2.1))
      ((asS (subs 1 (Value.slice o27.a o27.n o27.c) (some (Int.ofNat q3.1.1.n)) none)).bind fun s33 =>
    (corbellaw19_MetaBack.l1 k k s33 (Int.ofNat s33.n) (0 : Int) g32.2.1).bind fun w40 =>
    match w40.1 with
    | .inl r41 => some (r41, w40.2)
    | .inr o42 => some (true, w40.2)))) none
noncomputable def corbellaw19_MetaBack.T (k : Nat) : Tbl := tblOf [⟨43, anyArgs, wr [.sl] [.sl] (fun a h => corbellaw19_of.f k a h)⟩,
  ⟨39, anyArgs, wr [.sl] [.sl, (.int .i64)] (fun a h => meta_Lay.f k a h)⟩,
  ⟨40, anyArgs, wr [.sl] [.sl, (.int .i64)] (fun a h => meta_Read.f k a h)⟩,
  ⟨38, anyArgs, knownW⟩,
  ⟨42, anyArgs, wr [.sl, .sl] [.bool] (fun a h => corbelref16_SameTree.f k (a.1) (a.2) h)⟩,
  ⟨41, anyArgs, wr [.sl] [.sl] (fun a h => meta_Cut.f k a h)⟩]
noncomputable def corbellaw19_MetaBack.an (k : Nat) (p : Nat) : Option Ann := cond (Nat.beq p 16378) (some (.pass [] (lrun [(108, .sl), (109, (.int .i64)), (110, (.int .i64))] (some [(4, .bool)]) [] 2 (fun a h => corbellaw19_MetaBack.l1 k k (a.1) (a.2.1) (a.2.2) h))))
  (cond (Nat.beq p 4090) (some (.pass [7] (lrun [(7, .sl), (69, .sl), (70, (.int .i64)), (13, .sl), (71, (.int .i64))] (some [(4, .bool)]) [(13, .sl)] 0 (fun a h => corbellaw19_MetaBack.l0 k k (a.1) (a.2.1) (a.2.2.1) (a.2.2.2.1) (a.2.2.2.2) h))))
  (none))
noncomputable def corbellaw19_MetaBack.body : Code := (Try.f11.body).getD .skip
noncomputable def corbellaw19_MetaBack.c4090 : Code := cat corbellaw19_MetaBack.body [1, 1, 1, 1, 1, 1, 1, 1, 0, 1, 0, 0]
noncomputable def corbellaw19_MetaBack.c16378 : Code := cat corbellaw19_MetaBack.body [1, 1, 1, 1, 1, 1, 1, 1, 1, 1, 0, 1, 0, 0]
set_option maxRecDepth 100000 in
theorem corbellaw19_MetaBack.TS {C : FuncId → Bool} {X : CallF} (hX : XOk C X) (hK38 : KOk X 38) (hK114 : CmpOk X 114) (k : Nat) : TblS Try.prog C X (corbellaw19_MetaBack.T k) := by
  refine tblOf_sound ?_
  intro e he
  rcases List.mem_cons.1 he with rfl | he
  · exact wr_told (corbellaw19_of.told hX k)
  rcases List.mem_cons.1 he with rfl | he
  · exact wr_told (meta_Lay.told hX hK114 k)
  rcases List.mem_cons.1 he with rfl | he
  · exact wr_told (meta_Read.told hX hK114 k)
  rcases List.mem_cons.1 he with rfl | he
  · exact knownW_told hK38
  rcases List.mem_cons.1 he with rfl | he
  · exact wr_told (corbelref16_SameTree.told hX k)
  rcases List.mem_cons.1 he with rfl | he
  · exact wr_told (meta_Cut.told hX k)
  exact absurd he List.not_mem_nil
set_option maxRecDepth 100000 in
theorem corbellaw19_MetaBack.l1_pass {C : FuncId → Bool} {X : CallF} (hX : XOk C X) (hK38 : KOk X 38) (hK114 : CmpOk X 114) (k n : Nat) : PassS Try.prog C X 117 (.loop corbellaw19_MetaBack.c16378) (lrun [(108, .sl), (109, (.int .i64)), (110, (.int .i64))] (some [(4, .bool)]) [] 2 (fun a h => corbellaw19_MetaBack.l1 k n (a.1) (a.2.1) (a.2.2) h)) :=
  loop_pass (ins := [(108, .sl), (109, (.int .i64)), (110, (.int .i64))]) (rets := (some [(4, .bool)])) (outs := []) (id := 2) (tbl := corbellaw19_MetaBack.T k) (an := corbellaw19_MetaBack.an k) (pb := 32756) (corbellaw19_MetaBack.TS hX hK38 hK114 k) (fun n => (fun a h => corbellaw19_MetaBack.l1 k n (a.1) (a.2.1) (a.2.2) h)) (fun a h => rfl) (fun n a h => by kernel_rfl)
    (by
      have e : need (corbellaw19_MetaBack.an k) corbellaw19_MetaBack.c16378 32756 = [] := by kernel_rfl
      rw [e]; intro q hq; cases hq) n
set_option maxRecDepth 100000 in
theorem corbellaw19_MetaBack.l0_pass {C : FuncId → Bool} {X : CallF} (hX : XOk C X) (hK38 : KOk X 38) (hK114 : CmpOk X 114) (k n : Nat) : PassS Try.prog C X 117 (.loop corbellaw19_MetaBack.c4090) (lrun [(7, .sl), (69, .sl), (70, (.int .i64)), (13, .sl), (71, (.int .i64))] (some [(4, .bool)]) [(13, .sl)] 0 (fun a h => corbellaw19_MetaBack.l0 k n (a.1) (a.2.1) (a.2.2.1) (a.2.2.2.1) (a.2.2.2.2) h)) :=
  loop_pass (ins := [(7, .sl), (69, .sl), (70, (.int .i64)), (13, .sl), (71, (.int .i64))]) (rets := (some [(4, .bool)])) (outs := [(13, .sl)]) (id := 0) (tbl := corbellaw19_MetaBack.T k) (an := corbellaw19_MetaBack.an k) (pb := 8180) (corbellaw19_MetaBack.TS hX hK38 hK114 k) (fun n => (fun a h => corbellaw19_MetaBack.l0 k n (a.1) (a.2.1) (a.2.2.1) (a.2.2.2.1) (a.2.2.2.2) h)) (fun a h => rfl) (fun n a h => by kernel_rfl)
    (by
      have e : need (corbellaw19_MetaBack.an k) corbellaw19_MetaBack.c4090 8180 = [] := by kernel_rfl
      rw [e]; intro q hq; cases hq) n
set_option maxRecDepth 100000 in
theorem corbellaw19_MetaBack.eq (k : Nat) (a : RT [.sl, .sl]) (h : H) : (fun a h => corbellaw19_MetaBack.f k (a.1) (a.2) h) a h = kfun Try.prog (corbellaw19_MetaBack.T k) (corbellaw19_MetaBack.an k) (RT [.bool] × H) Try.f11 (encL [.sl, .sl] a) h (fun vs h' => (decL [.bool] vs).bind fun x => some (x, h')) := by kernel_rfl
set_option maxRecDepth 100000 in
theorem corbellaw19_MetaBack.told {C : FuncId → Bool} {X : CallF} (hX : XOk C X) (hK38 : KOk X 38) (hK114 : CmpOk X 114) (k : Nat) : Den.Told Try.prog C X 11 [.sl, .sl] [.bool] (fun a h => corbellaw19_MetaBack.f k (a.1) (a.2) h) :=
  told_of fun a h q e => fn_of (c := corbellaw19_MetaBack.body) (corbellaw19_MetaBack.TS hX hK38 hK114 k) Try.func11 (by kernel_rfl) (hX.no 11 _ h (by decide))
    (by
      have e : need (corbellaw19_MetaBack.an k) corbellaw19_MetaBack.body 1 = [(Code.loop corbellaw19_MetaBack.c4090, lrun [(7, .sl), (69, .sl), (70, (.int .i64)), (13, .sl), (71, (.int .i64))] (some [(4, .bool)]) [(13, .sl)] 0 (fun a h => corbellaw19_MetaBack.l0 k k (a.1) (a.2.1) (a.2.2.1) (a.2.2.2.1) (a.2.2.2.2) h)), (Code.loop corbellaw19_MetaBack.c16378, lrun [(108, .sl), (109, (.int .i64)), (110, (.int .i64))] (some [(4, .bool)]) [] 2 (fun a h => corbellaw19_MetaBack.l1 k k (a.1) (a.2.1) (a.2.2) h))] := by kernel_rfl
      rw [e]; intro q hq
      rcases List.mem_cons.1 hq with rfl | hq
      · exact corbellaw19_MetaBack.l0_pass hX hK38 hK114 k k
      rcases List.mem_cons.1 hq with rfl | hq
      · exact corbellaw19_MetaBack.l1_pass hX hK38 hK114 k k
      cases hq)
    ((corbellaw19_MetaBack.eq k a h).symm.trans e)
/-! ### corbel/corbellaw19.MetaSizes -/
noncomputable def corbellaw19_MetaSizes.l0 (k : Nat) (n : Nat) : Int → Sl → Sl → Int → Sl → Int → Int → Int → H → Option ((Int) × H) :=
  Nat.rec (motive := fun _ => Int → Sl → Sl → Int → Sl → Int → Int → Int → H → Option ((Int) × H)) (fun _ _ _ _ _ _ _ _ _ => none) (fun _ ih x3 x4 x5 x6 x7 x8 x9 x10 h11 => cond (decide (x10 < x8))
      ((asP (ixs 5 x7.a x7.n x10)).bind fun p12 =>
    (asSt [.str, .str, .bool, (.int .i64), .sl] (lda 5 h11 p12)).bind fun s13 =>
    (stv 5 (newR h11 58 5 [(Value.string (⟨#[]⟩ : ByteArray)), (Value.string (⟨#[]⟩ : ByteArray)), (Value.bool false), (Value.int .i64 (0 : Int)), (Value.slice none 0 0)]) (some ⟨h11.next, 0, none⟩) [(Value.string s13.1), (Value.string s13.2.1), (Value.bool s13.2.2.1), (Value.int .i64 s13.2.2.2.1), (Value.slice s13.2.2.2.2.a s13.2.2.2.2.n s13.2.2.2.2.c)]).bind fun q14 =>
    (asT (ldc q14.2 (some ⟨h11.next, 0, none⟩))).bind fun s15 =>
    (asT (ldc q14.2 (some ⟨h11.next, 1, none⟩))).bind fun s16 =>
    (asS (ldc q14.2 (some ⟨h11.next, 4, none⟩))).bind fun s17 =>
    ih x3 x4 x5 x6 x7 x8 (wrapA .i64 ((wrapA .i64 ((wrapA .i64 ((wrapA .i64 (x9 + (5 : Int))) + (Int.ofNat s15.data.toList.length))) + (Int.ofNat s16.data.toList.length))) + (Int.ofNat s17.n))) (wrapA .i64 (x10 + (1 : Int))) q14.2)
      (some (x9, h11))) n
theorem corbellaw19_MetaSizes.l0_zero (k : Nat) (x3 : Int) (x4 : Sl) (x5 : Sl) (x6 : Int) (x7 : Sl) (x8 : Int) (x9 : Int) (x10 : Int) (h11 : H) : corbellaw19_MetaSizes.l0 k 0 x3 x4 x5 x6 x7 x8 x9 x10 h11 = none := rfl
theorem corbellaw19_MetaSizes.l0_succ (k n : Nat) (x3 : Int) (x4 : Sl) (x5 : Sl) (x6 : Int) (x7 : Sl) (x8 : Int) (x9 : Int) (x10 : Int) (h11 : H) : corbellaw19_MetaSizes.l0 k (n + 1) x3 x4 x5 x6 x7 x8 x9 x10 h11 = (cond (decide (x10 < x8))
      ((asP (ixs 5 x7.a x7.n x10)).bind fun p12 =>
    (asSt [.str, .str, .bool, (.int .i64), .sl] (lda 5 h11 p12)).bind fun s13 =>
    (stv 5 (newR h11 58 5 [(Value.string (⟨#[]⟩ : ByteArray)), (Value.string (⟨#[]⟩ : ByteArray)), (Value.bool false), (Value.int .i64 (0 : Int)), (Value.slice none 0 0)]) (some ⟨h11.next, 0, none⟩) [(Value.string s13.1), (Value.string s13.2.1), (Value.bool s13.2.2.1), (Value.int .i64 s13.2.2.2.1), (Value.slice s13.2.2.2.2.a s13.2.2.2.2.n s13.2.2.2.2.c)]).bind fun q14 =>
    (asT (ldc q14.2 (some ⟨h11.next, 0, none⟩))).bind fun s15 =>
    (asT (ldc q14.2 (some ⟨h11.next, 1, none⟩))).bind fun s16 =>
    (asS (ldc q14.2 (some ⟨h11.next, 4, none⟩))).bind fun s17 =>
    corbellaw19_MetaSizes.l0 k n x3 x4 x5 x6 x7 x8 (wrapA .i64 ((wrapA .i64 ((wrapA .i64 ((wrapA .i64 (x9 + (5 : Int))) + (Int.ofNat s15.data.toList.length))) + (Int.ofNat s16.data.toList.length))) + (Int.ofNat s17.n))) (wrapA .i64 (x10 + (1 : Int))) q14.2)
      (some (x9, h11))) := rfl
noncomputable def corbellaw19_MetaSizes.f (k : Nat) (a0 : Sl) (a1 : Int) (h : H) : Option ((Bool) × H) :=
  cond (!true)
      (some (false, h))
      ((corbellaw19_of.f k a0 h).bind fun q1 =>
    (meta_Lay.f k q1.1 q1.2).bind fun q2 =>
    (corbellaw19_MetaSizes.l0 k k a1 q1.1 q2.1.1 q2.1.2 q1.1 (Int.ofNat q1.1.n) (1 : Int) (0 : Int) q2.2).bind fun w18 =>
    (cond (q2.1.2 != (0 : Int)) (some (true, w18.2))
      (some ((Int.ofNat q2.1.1.n) != w18.1, w18.2))).bind fun g19 =>
    (cond g19.1 (some (true, g19.2))
      ((meta_Cut.f k q2.1.1 g19.2).bind fun q20 =>
    some ((Int.ofNat q20.1.n) != (wrapA .i64 ((wrapA .i64 ((wrapA .i64 (w18.1 + (128 : Int))) - (1 : Int))).tdiv (128 : Int))), q20.2))).bind fun g21 =>
    (cond g21.1 (some (true, g21.2))
      (some (decide ((Int.ofNat q1.1.n) > (12 : Int)), g21.2))).bind fun g22 =>
    cond g22.1
      (some (false, g22.2))
      ((asS (subs 1 (Value.slice q2.1.1.a q2.1.1.n q2.1.1.c) none (some (wrapA .i64 (w18.1 - (1 : Int)))))).bind fun s23 =>
    (meta_Read.f k s23 g22.2).bind fun q24 =>
    (asS2 (apv 5 1 1 (Value.slice (some ⟨q24.2.next, 0, none⟩) 0 0) (Value.slice q2.1.1.a q2.1.1.n q2.1.1.c) (newR q24.2 5 1 []))).bind fun q25 =>
    (asS2 (apv 5 1 1 (Value.slice q25.1.a q25.1.n q25.1.c) (Value.slice (some ⟨q25.2.next, 0, none⟩) 1 1) (newR q25.2 5 1 [(Value.int .u8 a1)]))).bind fun q26 =>
    (meta_Read.f k q26.1 q26.2).bind fun q27 =>
    (meta_LayRoot.f k ((1 : Int), (0 : Int), w18.1, (0 : Int)) q27.2).bind fun q28 =>
    (meta_ReadRoot.f k q28.1.1 q28.2).bind fun q29 =>
    (stv 4 (newR q29.2 46 4 [(Value.int .i64 (0 : Int)), (Value.int .i64 (0 : Int)), (Value.int .i64 (0 : Int)), (Value.int .i64 (0 : Int))]) (some ⟨q29.2.next, 0, none⟩) [(Value.int .i64 q29.1.1.1), (Value.int .i64 q29.1.1.2.1), (Value.int .i64 q29.1.1.2.2.1), (Value.int .i64 q29.1.1.2.2.2)]).bind fun q30 =>
    (cond (q24.1.2 == (2 : Int)) (some (q27.1.2 == (2 : Int), q30.2))
      (some (false, q30.2))).bind fun g31 =>
    (cond g31.1 (some (q28.1.2 == (0 : Int), g31.2))
      (some (false, g31.2))).bind fun g32 =>
    (cond g32.1 (some (q29.1.2 == (0 : Int), g32.2))
      (some (false, g32.2))).bind fun g33 =>
    (cond g33.1 ((asI .i64 (ldc g33.2 (some ⟨q29.2.next, 2, none⟩))).bind fun n34 =>
    some (n34 == w18.1, g33.2))
      (some (false, g33.2))).bind fun g35 =>
    (cond g35.1 ((corbelref16_RightTree.f k q1.1 g35.2).bind fun q36 =>
    some (q36.1, q36.2))
      (some (false, g35.2))).bind fun g37 =>
    (cond g37.1 (some (decide (w18.1 ≤ (1024 : Int)), g37.2))
      (some (false, g37.2))).bind fun g38 =>
    some (g38.1, g38.2)))
noncomputable def corbellaw19_MetaSizes.T (k : Nat) : Tbl := tblOf [⟨38, anyArgs, knownW⟩,
  ⟨43, anyArgs, wr [.sl] [.sl] (fun a h => corbellaw19_of.f k a h)⟩,
  ⟨39, anyArgs, wr [.sl] [.sl, (.int .i64)] (fun a h => meta_Lay.f k a h)⟩,
  ⟨41, anyArgs, wr [.sl] [.sl] (fun a h => meta_Cut.f k a h)⟩,
  ⟨40, anyArgs, wr [.sl] [.sl, (.int .i64)] (fun a h => meta_Read.f k a h)⟩,
  ⟨33, anyArgs, wr [(.st [(.int .i64), (.int .i64), (.int .i64), (.int .i64)])] [.sl, (.int .i64)] (fun a h => meta_LayRoot.f k a h)⟩,
  ⟨36, anyArgs, wr [.sl] [(.st [(.int .i64), (.int .i64), (.int .i64), (.int .i64)]), (.int .i64)] (fun a h => meta_ReadRoot.f k a h)⟩,
  ⟨48, anyArgs, wr [.sl] [.bool] (fun a h => corbelref16_RightTree.f k a h)⟩]
noncomputable def corbellaw19_MetaSizes.an (k : Nat) (p : Nat) : Option Ann := cond (Nat.beq p 506) (some (.pass [1, 5, 6, 7] (lrun [(1, (.int .u8)), (5, .sl), (6, .sl), (7, (.int .i64)), (28, .sl), (29, (.int .i64)), (8, (.int .i64)), (30, (.int .i64))] none [(8, (.int .i64))] 0 (fun a h => corbellaw19_MetaSizes.l0 k k (a.1) (a.2.1) (a.2.2.1) (a.2.2.2.1) (a.2.2.2.2.1) (a.2.2.2.2.2.1) (a.2.2.2.2.2.2.1) (a.2.2.2.2.2.2.2) h))))
  (none)
noncomputable def corbellaw19_MetaSizes.body : Code := (Try.f12.body).getD .skip
noncomputable def corbellaw19_MetaSizes.c506 : Code := cat corbellaw19_MetaSizes.body [1, 1, 1, 1, 1, 0, 1, 0, 0]
set_option maxRecDepth 100000 in
theorem corbellaw19_MetaSizes.TS {C : FuncId → Bool} {X : CallF} (hX : XOk C X) (hK38 : KOk X 38) (hK114 : CmpOk X 114) (k : Nat) : TblS Try.prog C X (corbellaw19_MetaSizes.T k) := by
  refine tblOf_sound ?_
  intro e he
  rcases List.mem_cons.1 he with rfl | he
  · exact knownW_told hK38
  rcases List.mem_cons.1 he with rfl | he
  · exact wr_told (corbellaw19_of.told hX k)
  rcases List.mem_cons.1 he with rfl | he
  · exact wr_told (meta_Lay.told hX hK114 k)
  rcases List.mem_cons.1 he with rfl | he
  · exact wr_told (meta_Cut.told hX k)
  rcases List.mem_cons.1 he with rfl | he
  · exact wr_told (meta_Read.told hX hK114 k)
  rcases List.mem_cons.1 he with rfl | he
  · exact wr_told (meta_LayRoot.told hX k)
  rcases List.mem_cons.1 he with rfl | he
  · exact wr_told (meta_ReadRoot.told hX k)
  rcases List.mem_cons.1 he with rfl | he
  · exact wr_told (corbelref16_RightTree.told hX k)
  exact absurd he List.not_mem_nil
set_option maxRecDepth 100000 in
theorem corbellaw19_MetaSizes.l0_pass {C : FuncId → Bool} {X : CallF} (hX : XOk C X) (hK38 : KOk X 38) (hK114 : CmpOk X 114) (k n : Nat) : PassS Try.prog C X 129 (.loop corbellaw19_MetaSizes.c506) (lrun [(1, (.int .u8)), (5, .sl), (6, .sl), (7, (.int .i64)), (28, .sl), (29, (.int .i64)), (8, (.int .i64)), (30, (.int .i64))] none [(8, (.int .i64))] 0 (fun a h => corbellaw19_MetaSizes.l0 k n (a.1) (a.2.1) (a.2.2.1) (a.2.2.2.1) (a.2.2.2.2.1) (a.2.2.2.2.2.1) (a.2.2.2.2.2.2.1) (a.2.2.2.2.2.2.2) h)) :=
  loop_pass (ins := [(1, (.int .u8)), (5, .sl), (6, .sl), (7, (.int .i64)), (28, .sl), (29, (.int .i64)), (8, (.int .i64)), (30, (.int .i64))]) (rets := none) (outs := [(8, (.int .i64))]) (id := 0) (tbl := corbellaw19_MetaSizes.T k) (an := corbellaw19_MetaSizes.an k) (pb := 1012) (corbellaw19_MetaSizes.TS hX hK38 hK114 k) (fun n => (fun a h => corbellaw19_MetaSizes.l0 k n (a.1) (a.2.1) (a.2.2.1) (a.2.2.2.1) (a.2.2.2.2.1) (a.2.2.2.2.2.1) (a.2.2.2.2.2.2.1) (a.2.2.2.2.2.2.2) h)) (fun a h => rfl) (fun n a h => by kernel_rfl)
    (by
      have e : need (corbellaw19_MetaSizes.an k) corbellaw19_MetaSizes.c506 1012 = [] := by kernel_rfl
      rw [e]; intro q hq; cases hq) n
set_option maxRecDepth 100000 in
theorem corbellaw19_MetaSizes.eq (k : Nat) (a : RT [.sl, (.int .u8)]) (h : H) : (fun a h => corbellaw19_MetaSizes.f k (a.1) (a.2) h) a h = kfun Try.prog (corbellaw19_MetaSizes.T k) (corbellaw19_MetaSizes.an k) (RT [.bool] × H) Try.f12 (encL [.sl, (.int .u8)] a) h (fun vs h' => (decL [.bool] vs).bind fun x => some (x, h')) := by kernel_rfl
set_option maxRecDepth 100000 in
theorem corbellaw19_MetaSizes.told {C : FuncId → Bool} {X : CallF} (hX : XOk C X) (hK38 : KOk X 38) (hK114 : CmpOk X 114) (k : Nat) : Den.Told Try.prog C X 12 [.sl, (.int .u8)] [.bool] (fun a h => corbellaw19_MetaSizes.f k (a.1) (a.2) h) :=
  told_of fun a h q e => fn_of (c := corbellaw19_MetaSizes.body) (corbellaw19_MetaSizes.TS hX hK38 hK114 k) Try.func12 (by kernel_rfl) (hX.no 12 _ h (by decide))
    (by
      have e : need (corbellaw19_MetaSizes.an k) corbellaw19_MetaSizes.body 1 = [(Code.loop corbellaw19_MetaSizes.c506, lrun [(1, (.int .u8)), (5, .sl), (6, .sl), (7, (.int .i64)), (28, .sl), (29, (.int .i64)), (8, (.int .i64)), (30, (.int .i64))] none [(8, (.int .i64))] 0 (fun a h => corbellaw19_MetaSizes.l0 k k (a.1) (a.2.1) (a.2.2.1) (a.2.2.2.1) (a.2.2.2.2.1) (a.2.2.2.2.2.1) (a.2.2.2.2.2.2.1) (a.2.2.2.2.2.2.2) h))] := by kernel_rfl
      rw [e]; intro q hq
      rcases List.mem_cons.1 hq with rfl | hq
      · exact corbellaw19_MetaSizes.l0_pass hX hK38 hK114 k k
      cases hq)
    ((corbellaw19_MetaSizes.eq k a h).symm.trans e)
/-! ### corbel/corbelhand.Odd -/
noncomputable def corbelhand_Odd.f (k : Nat) (a0 : Int) (a1 : ByteArray) (h : H) : Option ((ByteArray) × H) :=
  (corbelhand_Pick.f k a0 (40 : Int) h).bind fun q1 =>
    cond (q1.1 == (38 : Int))
      (some (a1, q1.2))
      (cond (q1.1 == (39 : Int))
      ((corbelhand_Pick.f k (wrapA .i64 (a0.tdiv (40 : Int))) (4 : Int) q1.2).bind fun q2 =>
    (asT (ixv 4 1 #[(Value.string (⟨#[]⟩ : ByteArray)), (Value.string (⟨#[85, 112, 112, 101, 114]⟩ : ByteArray)), (Value.string (⟨#[116, 111, 111, 108, 111, 110, 103, 110, 97, 109, 101]⟩ : ByteArray)), (Value.string (⟨#[97, 32, 98]⟩ : ByteArray))] q2.1)).bind fun s3 =>
    some (s3, q2.2))
      ((corbelhand_Name.f k a0 q1.2).bind fun q4 =>
    some (q4.1, q4.2)))
noncomputable def corbelhand_Odd.T (k : Nat) : Tbl := tblOf [⟨19, anyArgs, wr [(.int .i64), (.int .i64)] [(.int .i64)] (fun a h => corbelhand_Pick.f k (a.1) (a.2) h)⟩,
  ⟨59, anyArgs, wr [(.int .i64)] [.str] (fun a h => corbelhand_Name.f k a h)⟩]
noncomputable def corbelhand_Odd.an (k : Nat) (p : Nat) : Option Ann := none
noncomputable def corbelhand_Odd.body : Code := (Try.f44.body).getD .skip
set_option maxRecDepth 100000 in
theorem corbelhand_Odd.TS {C : FuncId → Bool} {X : CallF} (hX : XOk C X) (k : Nat) : TblS Try.prog C X (corbelhand_Odd.T k) := by
  refine tblOf_sound ?_
  intro e he
  rcases List.mem_cons.1 he with rfl | he
  · exact wr_told (corbelhand_Pick.told hX k)
  rcases List.mem_cons.1 he with rfl | he
  · exact wr_told (corbelhand_Name.told hX k)
  exact absurd he List.not_mem_nil
set_option maxRecDepth 100000 in
theorem corbelhand_Odd.eq (k : Nat) (a : RT [(.int .i64), .str]) (h : H) : (fun a h => corbelhand_Odd.f k (a.1) (a.2) h) a h = kfun Try.prog (corbelhand_Odd.T k) (corbelhand_Odd.an k) (RT [.str] × H) Try.f44 (encL [(.int .i64), .str] a) h (fun vs h' => (decL [.str] vs).bind fun x => some (x, h')) := by kernel_rfl
set_option maxRecDepth 100000 in
theorem corbelhand_Odd.told {C : FuncId → Bool} {X : CallF} (hX : XOk C X) (k : Nat) : Den.Told Try.prog C X 44 [(.int .i64), .str] [.str] (fun a h => corbelhand_Odd.f k (a.1) (a.2) h) :=
  told_of fun a h q e => fn_of (c := corbelhand_Odd.body) (corbelhand_Odd.TS hX k) Try.func44 (by kernel_rfl) (hX.no 44 _ h (by decide))
    (by
      have e : need (corbelhand_Odd.an k) corbelhand_Odd.body 1 = [] := by kernel_rfl
      rw [e]; intro q hq; cases hq)
    ((corbelhand_Odd.eq k a h).symm.trans e)
/-! ### corbel/corbelref16.Lay -/
noncomputable def corbelref16_Lay.l1 (k : Nat) (n : Nat) : Sl → Int → (Option Addr) → Sl → Int → H → Option ((Sl) × H) :=
  Nat.rec (motive := fun _ => Sl → Int → (Option Addr) → Sl → Int → H → Option ((Sl) × H)) (fun _ _ _ _ _ _ => none) (fun _ ih x24 x25 x26 x27 x28 h29 => (asP (fadd 4 x26)).bind fun p30 =>
    (asS (ldc h29 p30)).bind fun s31 =>
    cond (decide (x28 < (Int.ofNat s31.n)))
      ((asP (fadd 4 x26)).bind fun p32 =>
    (asS (ldc h29 p32)).bind fun s33 =>
    (asP (ixs 1 s33.a s33.n x28)).bind fun p34 =>
    (asI .i64 (ldc h29 p34)).bind fun n35 =>
    (asS2 (apv 5 1 1 (Value.slice x27.a x27.n x27.c) (Value.slice (some ⟨h29.next, 0, none⟩) 1 1) (newR h29 5 1 [(Value.int .u8 (wrapA .u8 n35))]))).bind fun q36 =>
    ih x24 x25 x26 q36.1 (wrapA .i64 (x28 + (1 : Int))) q36.2)
      (some (x27, h29))) n
theorem corbelref16_Lay.l1_zero (k : Nat) (x24 : Sl) (x25 : Int) (x26 : Option Addr) (x27 : Sl) (x28 : Int) (h29 : H) : corbelref16_Lay.l1 k 0 x24 x25 x26 x27 x28 h29 = none := rfl
theorem corbelref16_Lay.l1_succ (k n : Nat) (x24 : Sl) (x25 : Int) (x26 : Option Addr) (x27 : Sl) (x28 : Int) (h29 : H) : corbelref16_Lay.l1 k (n + 1) x24 x25 x26 x27 x28 h29 = ((asP (fadd 4 x26)).bind fun p30 =>
    (asS (ldc h29 p30)).bind fun s31 =>
    cond (decide (x28 < (Int.ofNat s31.n)))
      ((asP (fadd 4 x26)).bind fun p32 =>
    (asS (ldc h29 p32)).bind fun s33 =>
    (asP (ixs 1 s33.a s33.n x28)).bind fun p34 =>
    (asI .i64 (ldc h29 p34)).bind fun n35 =>
    (asS2 (apv 5 1 1 (Value.slice x27.a x27.n x27.c) (Value.slice (some ⟨h29.next, 0, none⟩) 1 1) (newR h29 5 1 [(Value.int .u8 (wrapA .u8 n35))]))).bind fun q36 =>
    corbelref16_Lay.l1 k n x24 x25 x26 q36.1 (wrapA .i64 (x28 + (1 : Int))) q36.2)
      (some (x27, h29))) := rfl
noncomputable def corbelref16_Lay.l0 (k : Nat) (n : Nat) : Sl → Sl → Int → H → Option ((Sl) × H) :=
  Nat.rec (motive := fun _ => Sl → Sl → Int → H → Option ((Sl) × H)) (fun _ _ _ _ => none) (fun _ ih x2 x3 x4 h5 => cond (decide (x4 < (Int.ofNat x2.n)))
      ((asP (ixs 5 x2.a x2.n x4)).bind fun p6 =>
    (asSt [.str, .str, .bool, (.int .i64), .sl] (lda 5 h5 p6)).bind fun s7 =>
    (stv 5 (newR h5 58 5 [(Value.string (⟨#[]⟩ : ByteArray)), (Value.string (⟨#[]⟩ : ByteArray)), (Value.bool false), (Value.int .i64 (0 : Int)), (Value.slice none 0 0)]) (some ⟨h5.next, 0, none⟩) [(Value.string s7.1), (Value.string s7.2.1), (Value.bool s7.2.2.1), (Value.int .i64 s7.2.2.2.1), (Value.slice s7.2.2.2.2.a s7.2.2.2.2.n s7.2.2.2.2.c)]).bind fun q8 =>
    (asT (ldc q8.2 (some ⟨h5.next, 0, none⟩))).bind fun s9 =>
    (asS2 (apv 5 1 1 (Value.slice x3.a x3.n x3.c) (Value.slice (some ⟨q8.2.next, 0, none⟩) 1 1) (newR q8.2 5 1 [(Value.int .u8 (wrapA .u8 (Int.ofNat s9.data.toList.length)))]))).bind fun q10 =>
    (asT (ldc q10.2 (some ⟨h5.next, 0, none⟩))).bind fun s11 =>
    (asS2 (apv 5 1 1 (Value.slice q10.1.a q10.1.n q10.1.c) (Value.string s11) q10.2)).bind fun q12 =>
    (asT (ldc q12.2 (some ⟨h5.next, 1, none⟩))).bind fun s13 =>
    (asS2 (apv 5 1 1 (Value.slice q12.1.a q12.1.n q12.1.c) (Value.slice (some ⟨q12.2.next, 0, none⟩) 1 1) (newR q12.2 5 1 [(Value.int .u8 (wrapA .u8 (Int.ofNat s13.data.toList.length)))]))).bind fun q14 =>
    (asT (ldc q14.2 (some ⟨h5.next, 1, none⟩))).bind fun s15 =>
    (asS2 (apv 5 1 1 (Value.slice q14.1.a q14.1.n q14.1.c) (Value.string s15) q14.2)).bind fun q16 =>
    (asB (ldc q16.2 (some ⟨h5.next, 2, none⟩))).bind fun b17 =>
    (cond b17
      ((asS2 (apv 5 1 1 (Value.slice q16.1.a q16.1.n q16.1.c) (Value.slice (some ⟨q16.2.next, 0, none⟩) 1 1) (newR q16.2 5 1 [(Value.int .u8 (1 : Int))]))).bind fun q18 =>
    some (q18.1, q18.2))
      ((asS2 (apv 5 1 1 (Value.slice q16.1.a q16.1.n q16.1.c) (Value.slice (some ⟨q16.2.next, 0, none⟩) 1 1) (newR q16.2 5 1 [(Value.int .u8 (0 : Int))]))).bind fun q19 =>
    some (q19.1, q19.2)) : Option ((Sl) × H)).bind fun j20 =>
    (asI .i64 (ldc j20.2 (some ⟨h5.next, 3, none⟩))).bind fun n21 =>
    (corbelref7_Big.f k n21 (2 : Int) j20.2).bind fun q22 =>
    (asS2 (apv 5 1 1 (Value.slice j20.1.a j20.1.n j20.1.c) (Value.slice q22.1.a q22.1.n q22.1.c) q22.2)).bind fun q23 =>
    (corbelref16_Lay.l1 k k x2 x4 (some ⟨h5.next, 0, none⟩) q23.1 (0 : Int) q23.2).bind fun w37 =>
    ih x2 w37.1 (wrapA .i64 (x4 + (1 : Int))) w37.2)
      (some (x3, h5))) n
theorem corbelref16_Lay.l0_zero (k : Nat) (x2 : Sl) (x3 : Sl) (x4 : Int) (h5 : H) : corbelref16_Lay.l0 k 0 x2 x3 x4 h5 = none := rfl
theorem corbelref16_Lay.l0_succ (k n : Nat) (x2 : Sl) (x3 : Sl) (x4 : Int) (h5 : H) : corbelref16_Lay.l0 k (n + 1) x2 x3 x4 h5 = (cond (decide (x4 < (Int.ofNat x2.n)))
      ((asP (ixs 5 x2.a x2.n x4)).bind fun p6 =>
    (asSt [.str, .str, .bool, (.int .i64), .sl] (lda 5 h5 p6)).bind fun s7 =>
    (stv 5 (newR h5 58 5 [(Value.string (⟨#[]⟩ : ByteArray)), (Value.string (⟨#[]⟩ : ByteArray)), (Value.bool false), (Value.int .i64 (0 : Int)), (Value.slice none 0 0)]) (some ⟨h5.next, 0, none⟩) [(Value.string s7.1), (Value.string s7.2.1), (Value.bool s7.2.2.1), (Value.int .i64 s7.2.2.2.1), (Value.slice s7.2.2.2.2.a s7.2.2.2.2.n s7.2.2.2.2.c)]).bind fun q8 =>
    (asT (ldc q8.2 (some ⟨h5.next, 0, none⟩))).bind fun s9 =>
    (asS2 (apv 5 1 1 (Value.slice x3.a x3.n x3.c) (Value.slice (some ⟨q8.2.next, 0, none⟩) 1 1) (newR q8.2 5 1 [(Value.int .u8 (wrapA .u8 (Int.ofNat s9.data.toList.length)))]))).bind fun q10 =>
    (asT (ldc q10.2 (some ⟨h5.next, 0, none⟩))).bind fun s11 =>
    (asS2 (apv 5 1 1 (Value.slice q10.1.a q10.1.n q10.1.c) (Value.string s11) q10.2)).bind fun q12 =>
    (asT (ldc q12.2 (some ⟨h5.next, 1, none⟩))).bind fun s13 =>
    (asS2 (apv 5 1 1 (Value.slice q12.1.a q12.1.n q12.1.c) (Value.slice (some ⟨q12.2.next, 0, none⟩) 1 1) (newR q12.2 5 1 [(Value.int .u8 (wrapA .u8 (Int.ofNat s13.data.toList.length)))]))).bind fun q14 =>
    (asT (ldc q14.2 (some ⟨h5.next, 1, none⟩))).bind fun s15 =>
    (asS2 (apv 5 1 1 (Value.slice q14.1.a q14.1.n q14.1.c) (Value.string s15) q14.2)).bind fun q16 =>
    (asB (ldc q16.2 (some ⟨h5.next, 2, none⟩))).bind fun b17 =>
    (cond b17
      ((asS2 (apv 5 1 1 (Value.slice q16.1.a q16.1.n q16.1.c) (Value.slice (some ⟨q16.2.next, 0, none⟩) 1 1) (newR q16.2 5 1 [(Value.int .u8 (1 : Int))]))).bind fun q18 =>
    some (q18.1, q18.2))
      ((asS2 (apv 5 1 1 (Value.slice q16.1.a q16.1.n q16.1.c) (Value.slice (some ⟨q16.2.next, 0, none⟩) 1 1) (newR q16.2 5 1 [(Value.int .u8 (0 : Int))]))).bind fun q19 =>
    some (q19.1, q19.2)) : Option ((Sl) × H)).bind fun j20 =>
    (asI .i64 (ldc j20.2 (some ⟨h5.next, 3, none⟩))).bind fun n21 =>
    (corbelref7_Big.f k n21 (2 : Int) j20.2).bind fun q22 =>
    (asS2 (apv 5 1 1 (Value.slice j20.1.a j20.1.n j20.1.c) (Value.slice q22.1.a q22.1.n q22.1.c) q22.2)).bind fun q23 =>
    (corbelref16_Lay.l1 k k x2 x4 (some ⟨h5.next, 0, none⟩) q23.1 (0 : Int) q23.2).bind fun w37 =>
    corbelref16_Lay.l0 k n x2 w37.1 (wrapA .i64 (x4 + (1 : Int))) w37.2)
      (some (x3, h5))) := rfl
noncomputable def corbelref16_Lay.f (k : Nat) (a0 : Sl) (h : H) : Option ((Sl × Bool) × H) :=
  (corbelref16_RightTree.f k a0 h).bind fun q1 =>
    cond (!q1.1)
      (some (((⟨none, 0, 0⟩ : Sl), false), q1.2))
      ((corbelref16_Lay.l0 k k a0 (⟨(some ⟨q1.2.next, 0, none⟩), 1, 1⟩ : Sl) (0 : Int) (newR q1.2 5 1 [(Value.int .u8 (wrapA .u8 (Int.ofNat a0.n)))])).bind fun w38 =>
    some ((w38.1, true), w38.2))
noncomputable def corbelref16_Lay.T (k : Nat) : Tbl := tblOf [⟨48, anyArgs, wr [.sl] [.bool] (fun a h => corbelref16_RightTree.f k a h)⟩,
  ⟨76, anyArgs, wr [(.int .i64), (.int .i64)] [.sl] (fun a h => corbelref7_Big.f k (a.1) (a.2) h)⟩]
noncomputable def corbelref16_Lay.an (k : Nat) (p : Nat) : Option Ann := cond (Nat.beq p 122) (some (.pass [] (lrun [(0, .sl), (4, .sl), (5, (.int .i64))] none [(4, .sl)] 0 (fun a h => corbelref16_Lay.l0 k k (a.1) (a.2.1) (a.2.2) h))))
  (cond (Nat.beq p 1001982) (some (.pass [0, 5] (lrun [(0, .sl), (5, (.int .i64)), (6, .ptr), (4, .sl), (7, (.int .i64))] none [(4, .sl)] 2 (fun a h => corbelref16_Lay.l1 k k (a.1) (a.2.1) (a.2.2.1) (a.2.2.2.1) (a.2.2.2.2) h))))
  (cond (Nat.beq p 250493) (some (.join [0, 5, 6] none [(4, .sl)]))
  (none)))
noncomputable def corbelref16_Lay.body : Code := (Try.f45.body).getD .skip
noncomputable def corbelref16_Lay.c122 : Code := cat corbelref16_Lay.body [1, 1, 1, 0, 1, 0, 0]
noncomputable def corbelref16_Lay.c1001982 : Code := cat corbelref16_Lay.body [1, 1, 1, 0, 1, 0, 0, 1, 0, 0, 1, 1, 1, 1, 1, 1, 1, 1, 0, 0]
set_option maxRecDepth 100000 in
theorem corbelref16_Lay.TS {C : FuncId → Bool} {X : CallF} (hX : XOk C X) (k : Nat) : TblS Try.prog C X (corbelref16_Lay.T k) := by
  refine tblOf_sound ?_
  intro e he
  rcases List.mem_cons.1 he with rfl | he
  · exact wr_told (corbelref16_RightTree.told hX k)
  rcases List.mem_cons.1 he with rfl | he
  · exact wr_told (corbelref7_Big.told hX k)
  exact absurd he List.not_mem_nil
set_option maxRecDepth 100000 in
theorem corbelref16_Lay.l1_pass {C : FuncId → Bool} {X : CallF} (hX : XOk C X) (k n : Nat) : PassS Try.prog C X 77 (.loop corbelref16_Lay.c1001982) (lrun [(0, .sl), (5, (.int .i64)), (6, .ptr), (4, .sl), (7, (.int .i64))] none [(4, .sl)] 2 (fun a h => corbelref16_Lay.l1 k n (a.1) (a.2.1) (a.2.2.1) (a.2.2.2.1) (a.2.2.2.2) h)) :=
  loop_pass (ins := [(0, .sl), (5, (.int .i64)), (6, .ptr), (4, .sl), (7, (.int .i64))]) (rets := none) (outs := [(4, .sl)]) (id := 2) (tbl := corbelref16_Lay.T k) (an := corbelref16_Lay.an k) (pb := 2003964) (corbelref16_Lay.TS hX k) (fun n => (fun a h => corbelref16_Lay.l1 k n (a.1) (a.2.1) (a.2.2.1) (a.2.2.2.1) (a.2.2.2.2) h)) (fun a h => rfl) (fun n a h => by kernel_rfl)
    (by
      have e : need (corbelref16_Lay.an k) corbelref16_Lay.c1001982 2003964 = [] := by kernel_rfl
      rw [e]; intro q hq; cases hq) n
set_option maxRecDepth 100000 in
theorem corbelref16_Lay.l0_pass {C : FuncId → Bool} {X : CallF} (hX : XOk C X) (k n : Nat) : PassS Try.prog C X 77 (.loop corbelref16_Lay.c122) (lrun [(0, .sl), (4, .sl), (5, (.int .i64))] none [(4, .sl)] 0 (fun a h => corbelref16_Lay.l0 k n (a.1) (a.2.1) (a.2.2) h)) :=
  loop_pass (ins := [(0, .sl), (4, .sl), (5, (.int .i64))]) (rets := none) (outs := [(4, .sl)]) (id := 0) (tbl := corbelref16_Lay.T k) (an := corbelref16_Lay.an k) (pb := 244) (corbelref16_Lay.TS hX k) (fun n => (fun a h => corbelref16_Lay.l0 k n (a.1) (a.2.1) (a.2.2) h)) (fun a h => rfl) (fun n a h => by kernel_rfl)
    (by
      have e : need (corbelref16_Lay.an k) corbelref16_Lay.c122 244 = [(Code.loop corbelref16_Lay.c1001982, lrun [(0, .sl), (5, (.int .i64)), (6, .ptr), (4, .sl), (7, (.int .i64))] none [(4, .sl)] 2 (fun a h => corbelref16_Lay.l1 k k (a.1) (a.2.1) (a.2.2.1) (a.2.2.2.1) (a.2.2.2.2) h))] := by kernel_rfl
      rw [e]; intro q hq
      rcases List.mem_cons.1 hq with rfl | hq
      · exact corbelref16_Lay.l1_pass hX k k
      cases hq) n
set_option maxRecDepth 100000 in
theorem corbelref16_Lay.eq (k : Nat) (a : RT [.sl]) (h : H) : (fun a h => corbelref16_Lay.f k a h) a h = kfun Try.prog (corbelref16_Lay.T k) (corbelref16_Lay.an k) (RT [.sl, .bool] × H) Try.f45 (encL [.sl] a) h (fun vs h' => (decL [.sl, .bool] vs).bind fun x => some (x, h')) := by kernel_rfl
set_option maxRecDepth 100000 in
theorem corbelref16_Lay.told {C : FuncId → Bool} {X : CallF} (hX : XOk C X) (k : Nat) : Den.Told Try.prog C X 45 [.sl] [.sl, .bool] (fun a h => corbelref16_Lay.f k a h) :=
  told_of fun a h q e => fn_of (c := corbelref16_Lay.body) (corbelref16_Lay.TS hX k) Try.func45 (by kernel_rfl) (hX.no 45 _ h (by decide))
    (by
      have e : need (corbelref16_Lay.an k) corbelref16_Lay.body 1 = [(Code.loop corbelref16_Lay.c122, lrun [(0, .sl), (4, .sl), (5, (.int .i64))] none [(4, .sl)] 0 (fun a h => corbelref16_Lay.l0 k k (a.1) (a.2.1) (a.2.2) h))] := by kernel_rfl
      rw [e]; intro q hq
      rcases List.mem_cons.1 hq with rfl | hq
      · exact corbelref16_Lay.l0_pass hX k k
      cases hq)
    ((corbelref16_Lay.eq k a h).symm.trans e)
/-! ### corbel/corbelref16.take -/
noncomputable def corbelref16_take.f (k : Nat) (a0 : Sl) (a1 : Int) (h : H) : Option ((Sl × Sl × Bool) × H) :=
  cond (decide (a1 > (Int.ofNat a0.n)))
      (some (((⟨none, 0, 0⟩ : Sl), (⟨none, 0, 0⟩ : Sl), false), h))
      ((asS (subs 1 (Value.slice a0.a a0.n a0.c) none (some a1))).bind fun s1 =>
    (asS (subs 1 (Value.slice a0.a a0.n a0.c) (some a1) none)).bind fun s2 =>
    some ((s1, s2, true), h))
noncomputable def corbelref16_take.T (k : Nat) : Tbl := tblOf []
noncomputable def corbelref16_take.an (k : Nat) (p : Nat) : Option Ann := none
noncomputable def corbelref16_take.body : Code := (Try.f85.body).getD .skip
set_option maxRecDepth 100000 in
theorem corbelref16_take.TS {C : FuncId → Bool} {X : CallF} (hX : XOk C X) (k : Nat) : TblS Try.prog C X (corbelref16_take.T k) := by
  refine tblOf_sound ?_
  intro e he
  exact absurd he List.not_mem_nil
set_option maxRecDepth 100000 in
theorem corbelref16_take.eq (k : Nat) (a : RT [.sl, (.int .i64)]) (h : H) : (fun a h => corbelref16_take.f k (a.1) (a.2) h) a h = kfun Try.prog (corbelref16_take.T k) (corbelref16_take.an k) (RT [.sl, .sl, .bool] × H) Try.f85 (encL [.sl, (.int .i64)] a) h (fun vs h' => (decL [.sl, .sl, .bool] vs).bind fun x => some (x, h')) := by kernel_rfl
set_option maxRecDepth 100000 in
theorem corbelref16_take.told {C : FuncId → Bool} {X : CallF} (hX : XOk C X) (k : Nat) : Den.Told Try.prog C X 85 [.sl, (.int .i64)] [.sl, .sl, .bool] (fun a h => corbelref16_take.f k (a.1) (a.2) h) :=
  told_of fun a h q e => fn_of (c := corbelref16_take.body) (corbelref16_take.TS hX k) Try.func85 (by kernel_rfl) (hX.no 85 _ h (by decide))
    (by
      have e : need (corbelref16_take.an k) corbelref16_take.body 1 = [] := by kernel_rfl
      rw [e]; intro q hq; cases hq)
    ((corbelref16_take.eq k a h).symm.trans e)
/-! ### corbel/corbelref16.Read -/
noncomputable def corbelref16_Read.l2 (k : Nat) (n : Nat) : Sl → Sl → Sl → Int → Sl → (Option Addr) → Int → H → Option ((Unit) × H) :=
  Nat.rec (motive := fun _ => Sl → Sl → Sl → Int → Sl → (Option Addr) → Int → H → Option ((Unit) × H)) (fun _ _ _ _ _ _ _ _ => none) (fun _ ih x39 x40 x41 x42 x43 x44 x45 h46 => cond (decide (x45 < (Int.ofNat x41.n)))
      ((asP (fadd 4 x44)).bind fun p47 =>
    (asS (ldc h46 p47)).bind fun s48 =>
    (asP (ixs 1 x41.a x41.n x45)).bind fun p49 =>
    (asI .u8 (ldc h46 p49)).bind fun n50 =>
    (asS2 (apv 3 1 8 (Value.slice s48.a s48.n s48.c) (Value.slice (some ⟨h46.next, 0, none⟩) 1 1) (newR h46 3 1 [(Value.int .i64 (wrapA .i64 n50))]))).bind fun q51 =>
    (asP (fadd 4 x44)).bind fun p52 =>
    (stv 1 q51.2 p52 [(Value.slice q51.1.a q51.1.n q51.1.c)]).bind fun q53 =>
    ih x39 x40 x41 x42 x43 x44 (wrapA .i64 (x45 + (1 : Int))) q53.2)
      (some ((), h46))) n
theorem corbelref16_Read.l2_zero (k : Nat) (x39 : Sl) (x40 : Sl) (x41 : Sl) (x42 : Int) (x43 : Sl) (x44 : Option Addr) (x45 : Int) (h46 : H) : corbelref16_Read.l2 k 0 x39 x40 x41 x42 x43 x44 x45 h46 = none := rfl
theorem corbelref16_Read.l2_succ (k n : Nat) (x39 : Sl) (x40 : Sl) (x41 : Sl) (x42 : Int) (x43 : Sl) (x44 : Option Addr) (x45 : Int) (h46 : H) : corbelref16_Read.l2 k (n + 1) x39 x40 x41 x42 x43 x44 x45 h46 = (cond (decide (x45 < (Int.ofNat x41.n)))
      ((asP (fadd 4 x44)).bind fun p47 =>
    (asS (ldc h46 p47)).bind fun s48 =>
    (asP (ixs 1 x41.a x41.n x45)).bind fun p49 =>
    (asI .u8 (ldc h46 p49)).bind fun n50 =>
    (asS2 (apv 3 1 8 (Value.slice s48.a s48.n s48.c) (Value.slice (some ⟨h46.next, 0, none⟩) 1 1) (newR h46 3 1 [(Value.int .i64 (wrapA .i64 n50))]))).bind fun q51 =>
    (asP (fadd 4 x44)).bind fun p52 =>
    (stv 1 q51.2 p52 [(Value.slice q51.1.a q51.1.n q51.1.c)]).bind fun q53 =>
    corbelref16_Read.l2 k n x39 x40 x41 x42 x43 x44 (wrapA .i64 (x45 + (1 : Int))) q53.2)
      (some ((), h46))) := rfl
noncomputable def corbelref16_Read.l1 (k : Nat) (n : Nat) : Sl → Int → Sl → (Option Addr) → Sl → Int → H → Option (((Sl × Bool) ⊕ (Sl)) × H) :=
  Nat.rec (motive := fun _ => Sl → Int → Sl → (Option Addr) → Sl → Int → H → Option (((Sl × Bool) ⊕ (Sl)) × H)) (fun _ _ _ _ _ _ _ => none) (fun _ ih x9 x10 x11 x12 x13 x14 h15 => cond (decide (x14 < (2 : Int)))
      ((corbelref16_take.f k x13 (1 : Int) h15).bind fun q16 =>
    cond (!q16.1.2.2)
      (some (Sum.inl ((⟨none, 0, 0⟩ : Sl), false), q16.2))
      ((asP (ixs 1 q16.1.1.a q16.1.1.n (0 : Int))).bind fun p17 =>
    (asI .u8 (ldc q16.2 p17)).bind fun n18 =>
    (corbelref16_take.f k q16.1.2.1 (wrapA .i64 n18) q16.2).bind fun q19 =>
    cond (!q19.1.2.2)
      (some (Sum.inl ((⟨none, 0, 0⟩ : Sl), false), q19.2))
      ((cond (x14 == (0 : Int))
      ((asT (txt q19.2 (Value.slice q19.1.1.a q19.1.1.n q19.1.1.c))).bind fun s20 =>
    (asP (fadd 0 x12)).bind fun p21 =>
    (stv 1 q19.2 p21 [(Value.string s20)]).bind fun q22 =>
    some ((), q22.2))
      ((asT (txt q19.2 (Value.slice q19.1.1.a q19.1.1.n q19.1.1.c))).bind fun s23 =>
    (asP (fadd 1 x12)).bind fun p24 =>
    (stv 1 q19.2 p24 [(Value.string s23)]).bind fun q25 =>
    some ((), q25.2)) : Option ((Unit) × H)).bind fun j26 =>
    ih x9 x10 x11 x12 q19.1.2.1 (wrapA .i64 (x14 + (1 : Int))) j26.2)))
      (some (Sum.inr x13, h15))) n
theorem corbelref16_Read.l1_zero (k : Nat) (x9 : Sl) (x10 : Int) (x11 : Sl) (x12 : Option Addr) (x13 : Sl) (x14 : Int) (h15 : H) : corbelref16_Read.l1 k 0 x9 x10 x11 x12 x13 x14 h15 = none := rfl
theorem corbelref16_Read.l1_succ (k n : Nat) (x9 : Sl) (x10 : Int) (x11 : Sl) (x12 : Option Addr) (x13 : Sl) (x14 : Int) (h15 : H) : corbelref16_Read.l1 k (n + 1) x9 x10 x11 x12 x13 x14 h15 = (cond (decide (x14 < (2 : Int)))
      ((corbelref16_take.f k x13 (1 : Int) h15).bind fun q16 =>
    cond (!q16.1.2.2)
      (some (Sum.inl ((⟨none, 0, 0⟩ : Sl), false), q16.2))
      ((asP (ixs 1 q16.1.1.a q16.1.1.n (0 : Int))).bind fun p17 =>
    (asI .u8 (ldc q16.2 p17)).bind fun n18 =>
    (corbelref16_take.f k q16.1.2.1 (wrapA .i64 n18) q16.2).bind fun q19 =>
    cond (!q19.1.2.2)
      (some (Sum.inl ((⟨none, 0, 0⟩ : Sl), false), q19.2))
      ((cond (x14 == (0 : Int))
      ((asT (txt q19.2 (Value.slice q19.1.1.a q19.1.1.n q19.1.1.c))).bind fun s20 =>
    (asP (fadd 0 x12)).bind fun p21 =>
    (stv 1 q19.2 p21 [(Value.string s20)]).bind fun q22 =>
    some ((), q22.2))
      ((asT (txt q19.2 (Value.slice q19.1.1.a q19.1.1.n q19.1.1.c))).bind fun s23 =>
    (asP (fadd 1 x12)).bind fun p24 =>
    (stv 1 q19.2 p24 [(Value.string s23)]).bind fun q25 =>
    some ((), q25.2)) : Option ((Unit) × H)).bind fun j26 =>
    corbelref16_Read.l1 k n x9 x10 x11 x12 q19.1.2.1 (wrapA .i64 (x14 + (1 : Int))) j26.2)))
      (some (Sum.inr x13, h15))) := rfl
noncomputable def corbelref16_Read.l0 (k : Nat) (n : Nat) : Sl → Sl → Int → Sl → H → Option (((Sl × Bool) ⊕ (Sl)) × H) :=
  Nat.rec (motive := fun _ => Sl → Sl → Int → Sl → H → Option (((Sl × Bool) ⊕ (Sl)) × H)) (fun _ _ _ _ _ => none) (fun _ ih x4 x5 x6 x7 h8 => cond (decide (x6 > (0 : Int)))
      ((corbelref16_Read.l1 k k x4 x6 x7 (some ⟨h8.next, 0, none⟩) x5 (0 : Int) (newR h8 58 5 [(Value.string (⟨#[]⟩ : ByteArray)), (Value.string (⟨#[]⟩ : ByteArray)), (Value.bool false), (Value.int .i64 (0 : Int)), (Value.slice none 0 0)])).bind fun w27 =>
    match w27.1 with
    | .inl r28 => some (Sum.inl (r28.1, r28.2), w27.2)
    | .inr o29 => (corbelref16_take.f k o29 (3 : Int) w27.2).bind fun q30 =>
    cond (!q30.1.2.2)
      (some (Sum.inl ((⟨none, 0, 0⟩ : Sl), false), q30.2))
      ((asP (ixs 1 q30.1.1.a q30.1.1.n (0 : Int))).bind fun p31 =>
    (asI .u8 (ldc q30.2 p31)).bind fun n32 =>
    (stv 1 q30.2 (some ⟨h8.next, 2, none⟩) [(Value.bool (n32 == (1 : Int)))]).bind fun q33 =>
    (asS (subs 1 (Value.slice q30.1.1.a q30.1.1.n q30.1.1.c) (some (1 : Int)) none)).bind fun s34 =>
    (corbelref7_From.f k s34 q33.2).bind fun q35 =>
    (stv 1 q35.2 (some ⟨h8.next, 3, none⟩) [(Value.int .i64 q35.1)]).bind fun q36 =>
    (asI .i64 (ldc q36.2 (some ⟨h8.next, 3, none⟩))).bind fun n37 =>
    (corbelref16_take.f k q30.1.2.1 (wrapA .i64 (n37.tdiv (8 : Int))) q36.2).bind fun q38 =>
    cond (!q38.1.2.2)
      (some (Sum.inl ((⟨none, 0, 0⟩ : Sl), false), q38.2))
      ((corbelref16_Read.l2 k k q38.1.2.1 x4 q38.1.1 x6 x7 (some ⟨h8.next, 0, none⟩) (0 : Int) q38.2).bind fun w54 =>
    (asSt [.str, .str, .bool, (.int .i64), .sl] (lda 5 w54.2 (some ⟨h8.next, 0, none⟩))).bind fun s55 =>
    (asS2 (apv 58 5 72 (Value.slice x7.a x7.n x7.c) (Value.slice (some ⟨w54.2.next, 0, none⟩) 1 1) (newR w54.2 58 5 [(Value.string s55.1), (Value.string s55.2.1), (Value.bool s55.2.2.1), (Value.int .i64 s55.2.2.2.1), (Value.slice s55.2.2.2.2.a s55.2.2.2.2.n s55.2.2.2.2.c)]))).bind fun q56 =>
    ih x4 q38.1.2.1 (wrapA .i64 (x6 - (1 : Int))) q56.1 q56.2)))
      (some (Sum.inr x7, h8))) n
theorem corbelref16_Read.l0_zero (k : Nat) (x4 : Sl) (x5 : Sl) (x6 : Int) (x7 : Sl) (h8 : H) : corbelref16_Read.l0 k 0 x4 x5 x6 x7 h8 = none := rfl
theorem corbelref16_Read.l0_succ (k n : Nat) (x4 : Sl) (x5 : Sl) (x6 : Int) (x7 : Sl) (h8 : H) : corbelref16_Read.l0 k (n + 1) x4 x5 x6 x7 h8 = (cond (decide (x6 > (0 : Int)))
      ((corbelref16_Read.l1 k k x4 x6 x7 (some ⟨h8.next, 0, none⟩) x5 (0 : Int) (newR h8 58 5 [(Value.string (⟨#[]⟩ : ByteArray)), (Value.string (⟨#[]⟩ : ByteArray)), (Value.bool false), (Value.int .i64 (0 : Int)), (Value.slice none 0 0)])).bind fun w27 =>
    match w27.1 with
    | .inl r28 => some (Sum.inl (r28.1, r28.2), w27.2)
    | .inr o29 => (corbelref16_take.f k o29 (3 : Int) w27.2).bind fun q30 =>
    cond (!q30.1.2.2)
      (some (Sum.inl ((⟨none, 0, 0⟩ : Sl), false), q30.2))
      ((asP (ixs 1 q30.1.1.a q30.1.1.n (0 : Int))).bind fun p31 =>
    (asI .u8 (ldc q30.2 p31)).bind fun n32 =>
    (stv 1 q30.2 (some ⟨h8.next, 2, none⟩) [(Value.bool (n32 == (1 : Int)))]).bind fun q33 =>
    (asS (subs 1 (Value.slice q30.1.1.a q30.1.1.n q30.1.1.c) (some (1 : Int)) none)).bind fun s34 =>
    (corbelref7_From.f k s34 q33.2).bind fun q35 =>
    (stv 1 q35.2 (some ⟨h8.next, 3, none⟩) [(Value.int .i64 q35.1)]).bind fun q36 =>
    (asI .i64 (ldc q36.2 (some ⟨h8.next, 3, none⟩))).bind fun n37 =>
    (corbelref16_take.f k q30.1.2.1 (wrapA .i64 (n37.tdiv (8 : Int))) q36.2).bind fun q38 =>
    cond (!q38.1.2.2)
      (some (Sum.inl ((⟨none, 0, 0⟩ : Sl), false), q38.2))
      ((corbelref16_Read.l2 k k q38.1.2.1 x4 q38.1.1 x6 x7 (some ⟨h8.next, 0, none⟩) (0 : Int) q38.2).bind fun w54 =>
    (asSt [.str, .str, .bool, (.int .i64), .sl] (lda 5 w54.2 (some ⟨h8.next, 0, none⟩))).bind fun s55 =>
    (asS2 (apv 58 5 72 (Value.slice x7.a x7.n x7.c) (Value.slice (some ⟨w54.2.next, 0, none⟩) 1 1) (newR w54.2 58 5 [(Value.string s55.1), (Value.string s55.2.1), (Value.bool s55.2.2.1), (Value.int .i64 s55.2.2.2.1), (Value.slice s55.2.2.2.2.a s55.2.2.2.2.n s55.2.2.2.2.c)]))).bind fun q56 =>
    corbelref16_Read.l0 k n x4 q38.1.2.1 (wrapA .i64 (x6 - (1 : Int))) q56.1 q56.2)))
      (some (Sum.inr x7, h8))) := rfl
noncomputable def corbelref16_Read.f (k : Nat) (a0 : Sl) (h : H) : Option ((Sl × Bool) × H) :=
  (corbelref16_take.f k a0 (1 : Int) h).bind fun q1 =>
    cond (!q1.1.2.2)
      (some (((⟨none, 0, 0⟩ : Sl), false), q1.2))
      ((asP (ixs 1 q1.1.1.a q1.1.1.n (0 : Int))).bind fun p2 =>
    (asI .u8 (ldc q1.2 p2)).bind fun n3 =>
    (corbelref16_Read.l0 k k a0 q1.1.2.1 (wrapA .i64 n3) (⟨none, 0, 0⟩ : Sl) q1.2).bind fun w57 =>
    match w57.1 with
    | .inl r58 => some ((r58.1, r58.2), w57.2)
    | .inr o59 => (corbelref16_Lay.f k o59 w57.2).bind fun q60 =>
    (cond (!q60.1.2) (some (true, q60.2))
      ((asT (txt q60.2 (Value.slice q60.1.1.a q60.1.1.n q60.1.1.c))).bind fun s61 =>
    (asT (txt q60.2 (Value.slice a0.a a0.n a0.c))).bind fun s62 =>
    some (!(s61.toList == s62.toList), q60.2))).bind fun g63 =>
    cond g63.1
      (some (((⟨none, 0, 0⟩ : Sl), false), g63.2))
      (some ((o59, true), g63.2)))
noncomputable def corbelref16_Read.T (k : Nat) : Tbl := tblOf [⟨85, anyArgs, wr [.sl, (.int .i64)] [.sl, .sl, .bool] (fun a h => corbelref16_take.f k (a.1) (a.2) h)⟩,
  ⟨79, anyArgs, wr [.sl] [(.int .i64)] (fun a h => corbelref7_From.f k a h)⟩,
  ⟨45, anyArgs, wr [.sl] [.sl, .bool] (fun a h => corbelref16_Lay.f k a h)⟩]
noncomputable def corbelref16_Read.an (k : Nat) (p : Nat) : Option Ann := cond (Nat.beq p 508) (some (.pass [4] (lrun [(4, .sl), (0, .sl), (7, (.int .i64)), (8, .sl)] (some [(2, .sl), (3, .bool)]) [(8, .sl)] 0 (fun a h => corbelref16_Read.l0 k k (a.1) (a.2.1) (a.2.2.1) (a.2.2.2) h))))
  (cond (Nat.beq p 16656378) (some (.pass [0, 4, 7, 8, 9] (lrun [(0, .sl), (4, .sl), (5, .sl), (7, (.int .i64)), (8, .sl), (9, .ptr), (11, (.int .i64))] none [] 4 (fun a h => corbelref16_Read.l2 k k (a.1) (a.2.1) (a.2.2.1) (a.2.2.2.1) (a.2.2.2.2.1) (a.2.2.2.2.2.1) (a.2.2.2.2.2.2) h))))
  (cond (Nat.beq p 130122) (some (.pass [4, 7, 8, 9] (lrun [(4, .sl), (7, (.int .i64)), (8, .sl), (9, .ptr), (0, .sl), (10, (.int .i64))] (some [(2, .sl), (3, .bool)]) [(0, .sl)] 2 (fun a h => corbelref16_Read.l1 k k (a.1) (a.2.1) (a.2.2.1) (a.2.2.2.1) (a.2.2.2.2.1) (a.2.2.2.2.2) h))))
  (cond (Nat.beq p 66622623) (some (.join [0, 4, 7, 8, 9, 10] none []))
  (none))))
noncomputable def corbelref16_Read.body : Code := (Try.f46.body).getD .skip
noncomputable def corbelref16_Read.c508 : Code := cat corbelref16_Read.body [1, 1, 1, 1, 1, 1, 0, 0, 0]
noncomputable def corbelref16_Read.c130122 : Code := cat corbelref16_Read.body [1, 1, 1, 1, 1, 1, 0, 0, 0, 1, 0, 0, 1, 0, 1, 0, 0]
noncomputable def corbelref16_Read.c16656378 : Code := cat corbelref16_Read.body [1, 1, 1, 1, 1, 1, 0, 0, 0, 1, 0, 0, 1, 1, 1, 1, 1, 1, 1, 1, 0, 1, 0, 0]
set_option maxRecDepth 100000 in
theorem corbelref16_Read.TS {C : FuncId → Bool} {X : CallF} (hX : XOk C X) (k : Nat) : TblS Try.prog C X (corbelref16_Read.T k) := by
  refine tblOf_sound ?_
  intro e he
  rcases List.mem_cons.1 he with rfl | he
  · exact wr_told (corbelref16_take.told hX k)
  rcases List.mem_cons.1 he with rfl | he
  · exact wr_told (corbelref7_From.told hX k)
  rcases List.mem_cons.1 he with rfl | he
  · exact wr_told (corbelref16_Lay.told hX k)
  exact absurd he List.not_mem_nil
set_option maxRecDepth 100000 in
theorem corbelref16_Read.l2_pass {C : FuncId → Bool} {X : CallF} (hX : XOk C X) (k n : Nat) : PassS Try.prog C X 125 (.loop corbelref16_Read.c16656378) (lrun [(0, .sl), (4, .sl), (5, .sl), (7, (.int .i64)), (8, .sl), (9, .ptr), (11, (.int .i64))] none [] 4 (fun a h => corbelref16_Read.l2 k n (a.1) (a.2.1) (a.2.2.1) (a.2.2.2.1) (a.2.2.2.2.1) (a.2.2.2.2.2.1) (a.2.2.2.2.2.2) h)) :=
  loop_pass (ins := [(0, .sl), (4, .sl), (5, .sl), (7, (.int .i64)), (8, .sl), (9, .ptr), (11, (.int .i64))]) (rets := none) (outs := []) (id := 4) (tbl := corbelref16_Read.T k) (an := corbelref16_Read.an k) (pb := 33312756) (corbelref16_Read.TS hX k) (fun n => (fun a h => corbelref16_Read.l2 k n (a.1) (a.2.1) (a.2.2.1) (a.2.2.2.1) (a.2.2.2.2.1) (a.2.2.2.2.2.1) (a.2.2.2.2.2.2) h)) (fun a h => rfl) (fun n a h => by kernel_rfl)
    (by
      have e : need (corbelref16_Read.an k) corbelref16_Read.c16656378 33312756 = [] := by kernel_rfl
      rw [e]; intro q hq; cases hq) n
set_option maxRecDepth 100000 in
theorem corbelref16_Read.l1_pass {C : FuncId → Bool} {X : CallF} (hX : XOk C X) (k n : Nat) : PassS Try.prog C X 125 (.loop corbelref16_Read.c130122) (lrun [(4, .sl), (7, (.int .i64)), (8, .sl), (9, .ptr), (0, .sl), (10, (.int .i64))] (some [(2, .sl), (3, .bool)]) [(0, .sl)] 2 (fun a h => corbelref16_Read.l1 k n (a.1) (a.2.1) (a.2.2.1) (a.2.2.2.1) (a.2.2.2.2.1) (a.2.2.2.2.2) h)) :=
  loop_pass (ins := [(4, .sl), (7, (.int .i64)), (8, .sl), (9, .ptr), (0, .sl), (10, (.int .i64))]) (rets := (some [(2, .sl), (3, .bool)])) (outs := [(0, .sl)]) (id := 2) (tbl := corbelref16_Read.T k) (an := corbelref16_Read.an k) (pb := 260244) (corbelref16_Read.TS hX k) (fun n => (fun a h => corbelref16_Read.l1 k n (a.1) (a.2.1) (a.2.2.1) (a.2.2.2.1) (a.2.2.2.2.1) (a.2.2.2.2.2) h)) (fun a h => rfl) (fun n a h => by kernel_rfl)
    (by
      have e : need (corbelref16_Read.an k) corbelref16_Read.c130122 260244 = [] := by kernel_rfl
      rw [e]; intro q hq; cases hq) n
set_option maxRecDepth 100000 in
theorem corbelref16_Read.l0_pass {C : FuncId → Bool} {X : CallF} (hX : XOk C X) (k n : Nat) : PassS Try.prog C X 125 (.loop corbelref16_Read.c508) (lrun [(4, .sl), (0, .sl), (7, (.int .i64)), (8, .sl)] (some [(2, .sl), (3, .bool)]) [(8, .sl)] 0 (fun a h => corbelref16_Read.l0 k n (a.1) (a.2.1) (a.2.2.1) (a.2.2.2) h)) :=
  loop_pass (ins := [(4, .sl), (0, .sl), (7, (.int .i64)), (8, .sl)]) (rets := (some [(2, .sl), (3, .bool)])) (outs := [(8, .sl)]) (id := 0) (tbl := corbelref16_Read.T k) (an := corbelref16_Read.an k) (pb := 1016) (corbelref16_Read.TS hX k) (fun n => (fun a h => corbelref16_Read.l0 k n (a.1) (a.2.1) (a.2.2.1) (a.2.2.2) h)) (fun a h => rfl) (fun n a h => by kernel_rfl)
    (by
      have e : need (corbelref16_Read.an k) corbelref16_Read.c508 1016 = [(Code.loop corbelref16_Read.c130122, lrun [(4, .sl), (7, (.int .i64)), (8, .sl), (9, .ptr), (0, .sl), (10, (.int .i64))] (some [(2, .sl), (3, .bool)]) [(0, .sl)] 2 (fun a h => corbelref16_Read.l1 k k (a.1) (a.2.1) (a.2.2.1) (a.2.2.2.1) (a.2.2.2.2.1) (a.2.2.2.2.2) h)), (Code.loop corbelref16_Read.c16656378, lrun [(0, .sl), (4, .sl), (5, .sl), (7, (.int .i64)), (8, .sl), (9, .ptr), (11, (.int .i64))] none [] 4 (fun a h => corbelref16_Read.l2 k k (a.1) (a.2.1) (a.2.2.1) (a.2.2.2.1) (a.2.2.2.2.1) (a.2.2.2.2.2.1) (a.2.2.2.2.2.2) h))] := by kernel_rfl
      rw [e]; intro q hq
      rcases List.mem_cons.1 hq with rfl | hq
      · exact corbelref16_Read.l1_pass hX k k
      rcases List.mem_cons.1 hq with rfl | hq
      · exact corbelref16_Read.l2_pass hX k k
      cases hq) n
set_option maxRecDepth 100000 in
theorem corbelref16_Read.eq (k : Nat) (a : RT [.sl]) (h : H) : (fun a h => corbelref16_Read.f k a h) a h = kfun Try.prog (corbelref16_Read.T k) (corbelref16_Read.an k) (RT [.sl, .bool] × H) Try.f46 (encL [.sl] a) h (fun vs h' => (decL [.sl, .bool] vs).bind fun x => some (x, h')) := by kernel_rfl
set_option maxRecDepth 100000 in
theorem corbelref16_Read.told {C : FuncId → Bool} {X : CallF} (hX : XOk C X) (k : Nat) : Den.Told Try.prog C X 46 [.sl] [.sl, .bool] (fun a h => corbelref16_Read.f k a h) :=
  told_of fun a h q e => fn_of (c := corbelref16_Read.body) (corbelref16_Read.TS hX k) Try.func46 (by kernel_rfl) (hX.no 46 _ h (by decide))
    (by
      have e : need (corbelref16_Read.an k) corbelref16_Read.body 1 = [(Code.loop corbelref16_Read.c508, lrun [(4, .sl), (0, .sl), (7, (.int .i64)), (8, .sl)] (some [(2, .sl), (3, .bool)]) [(8, .sl)] 0 (fun a h => corbelref16_Read.l0 k k (a.1) (a.2.1) (a.2.2.1) (a.2.2.2) h))] := by kernel_rfl
      rw [e]; intro q hq
      rcases List.mem_cons.1 hq with rfl | hq
      · exact corbelref16_Read.l0_pass hX k k
      cases hq)
    ((corbelref16_Read.eq k a h).symm.trans e)
/-! ### corbel/corbelref16.Cut -/
noncomputable def corbelref16_Cut.l0 (k : Nat) (n : Nat) : Sl → Sl → Int → H → Option ((Sl) × H) :=
  Nat.rec (motive := fun _ => Sl → Sl → Int → H → Option ((Sl) × H)) (fun _ _ _ _ => none) (fun _ ih x1 x2 x3 h4 => cond (decide (x3 < (Int.ofNat x1.n)))
      ((asS (subs 1 (Value.slice x1.a x1.n x1.c) (some x3) none)).bind fun s5 =>
    (asI2 .i64 (cpy 1 (Value.slice (some ⟨h4.next, 0, none⟩) 128 128) (Value.slice s5.a s5.n s5.c) (newZ h4 5 1 [(Value.int .u8 (0 : Int))] 128))).bind fun q6 =>
    (asS2 (apv 30 1 24 (Value.slice x2.a x2.n x2.c) (Value.slice (some ⟨q6.2.next, 0, none⟩) 1 1) (newR q6.2 30 1 [(Value.slice (some ⟨h4.next, 0, none⟩) 128 128)]))).bind fun q7 =>
    ih x1 q7.1 (wrapA .i64 (x3 + (128 : Int))) q7.2)
      (some (x2, h4))) n
theorem corbelref16_Cut.l0_zero (k : Nat) (x1 : Sl) (x2 : Sl) (x3 : Int) (h4 : H) : corbelref16_Cut.l0 k 0 x1 x2 x3 h4 = none := rfl
theorem corbelref16_Cut.l0_succ (k n : Nat) (x1 : Sl) (x2 : Sl) (x3 : Int) (h4 : H) : corbelref16_Cut.l0 k (n + 1) x1 x2 x3 h4 = (cond (decide (x3 < (Int.ofNat x1.n)))
      ((asS (subs 1 (Value.slice x1.a x1.n x1.c) (some x3) none)).bind fun s5 =>
    (asI2 .i64 (cpy 1 (Value.slice (some ⟨h4.next, 0, none⟩) 128 128) (Value.slice s5.a s5.n s5.c) (newZ h4 5 1 [(Value.int .u8 (0 : Int))] 128))).bind fun q6 =>
    (asS2 (apv 30 1 24 (Value.slice x2.a x2.n x2.c) (Value.slice (some ⟨q6.2.next, 0, none⟩) 1 1) (newR q6.2 30 1 [(Value.slice (some ⟨h4.next, 0, none⟩) 128 128)]))).bind fun q7 =>
    corbelref16_Cut.l0 k n x1 q7.1 (wrapA .i64 (x3 + (128 : Int))) q7.2)
      (some (x2, h4))) := rfl
noncomputable def corbelref16_Cut.f (k : Nat) (a0 : Sl) (h : H) : Option ((Sl) × H) :=
  (corbelref16_Cut.l0 k k a0 (⟨none, 0, 0⟩ : Sl) (0 : Int) h).bind fun w8 =>
    some (w8.1, w8.2)
noncomputable def corbelref16_Cut.T (k : Nat) : Tbl := tblOf []
noncomputable def corbelref16_Cut.an (k : Nat) (p : Nat) : Option Ann := cond (Nat.beq p 58) (some (.pass [] (lrun [(0, .sl), (3, .sl), (4, (.int .i64))] none [(3, .sl)] 0 (fun a h => corbelref16_Cut.l0 k k (a.1) (a.2.1) (a.2.2) h))))
  (none)
noncomputable def corbelref16_Cut.body : Code := (Try.f47.body).getD .skip
noncomputable def corbelref16_Cut.c58 : Code := cat corbelref16_Cut.body [1, 1, 0, 1, 0, 0]
set_option maxRecDepth 100000 in
theorem corbelref16_Cut.TS {C : FuncId → Bool} {X : CallF} (hX : XOk C X) (k : Nat) : TblS Try.prog C X (corbelref16_Cut.T k) := by
  refine tblOf_sound ?_
  intro e he
  exact absurd he List.not_mem_nil
set_option maxRecDepth 100000 in
theorem corbelref16_Cut.l0_pass {C : FuncId → Bool} {X : CallF} (hX : XOk C X) (k n : Nat) : PassS Try.prog C X 23 (.loop corbelref16_Cut.c58) (lrun [(0, .sl), (3, .sl), (4, (.int .i64))] none [(3, .sl)] 0 (fun a h => corbelref16_Cut.l0 k n (a.1) (a.2.1) (a.2.2) h)) :=
  loop_pass (ins := [(0, .sl), (3, .sl), (4, (.int .i64))]) (rets := none) (outs := [(3, .sl)]) (id := 0) (tbl := corbelref16_Cut.T k) (an := corbelref16_Cut.an k) (pb := 116) (corbelref16_Cut.TS hX k) (fun n => (fun a h => corbelref16_Cut.l0 k n (a.1) (a.2.1) (a.2.2) h)) (fun a h => rfl) (fun n a h => by kernel_rfl)
    (by
      have e : need (corbelref16_Cut.an k) corbelref16_Cut.c58 116 = [] := by kernel_rfl
      rw [e]; intro q hq; cases hq) n
set_option maxRecDepth 100000 in
theorem corbelref16_Cut.eq (k : Nat) (a : RT [.sl]) (h : H) : (fun a h => corbelref16_Cut.f k a h) a h = kfun Try.prog (corbelref16_Cut.T k) (corbelref16_Cut.an k) (RT [.sl] × H) Try.f47 (encL [.sl] a) h (fun vs h' => (decL [.sl] vs).bind fun x => some (x, h')) := by kernel_rfl
set_option maxRecDepth 100000 in
theorem corbelref16_Cut.told {C : FuncId → Bool} {X : CallF} (hX : XOk C X) (k : Nat) : Den.Told Try.prog C X 47 [.sl] [.sl] (fun a h => corbelref16_Cut.f k a h) :=
  told_of fun a h q e => fn_of (c := corbelref16_Cut.body) (corbelref16_Cut.TS hX k) Try.func47 (by kernel_rfl) (hX.no 47 _ h (by decide))
    (by
      have e : need (corbelref16_Cut.an k) corbelref16_Cut.body 1 = [(Code.loop corbelref16_Cut.c58, lrun [(0, .sl), (3, .sl), (4, (.int .i64))] none [(3, .sl)] 0 (fun a h => corbelref16_Cut.l0 k k (a.1) (a.2.1) (a.2.2) h))] := by kernel_rfl
      rw [e]; intro q hq
      rcases List.mem_cons.1 hq with rfl | hq
      · exact corbelref16_Cut.l0_pass hX k k
      cases hq)
    ((corbelref16_Cut.eq k a h).symm.trans e)
/-! ### corbel/corbellaw19.MetaLays -/
noncomputable def corbellaw19_MetaLays.l1 (k : Nat) (n : Nat) : Sl → Sl → Int → Int → H → Option (((Bool) ⊕ (Unit)) × H) :=
  Nat.rec (motive := fun _ => Sl → Sl → Int → Int → H → Option (((Bool) ⊕ (Unit)) × H)) (fun _ _ _ _ _ => none) (fun _ ih x44 x45 x46 x47 h48 => cond (decide (x47 < x46))
      ((asP (ixs 1 x44.a x44.n x47)).bind fun p49 =>
    (asS (ldc h48 p49)).bind fun s50 =>
    (asT (txt h48 (Value.slice s50.a s50.n s50.c))).bind fun s51 =>
    (asP (ixs 1 x45.a x45.n x47)).bind fun p52 =>
    (asS (ldc h48 p52)).bind fun s53 =>
    (asT (txt h48 (Value.slice s53.a s53.n s53.c))).bind fun s54 =>
    cond (!(s51.toList == s54.toList))
      (some (Sum.inl false, h48))
      (ih x44 x45 x46 (wrapA .i64 (x47 + (1 : Int))) h48))
      (some (Sum.inr (), h48))) n
theorem corbellaw19_MetaLays.l1_zero (k : Nat) (x44 : Sl) (x45 : Sl) (x46 : Int) (x47 : Int) (h48 : H) : corbellaw19_MetaLays.l1 k 0 x44 x45 x46 x47 h48 = none := rfl
theorem corbellaw19_MetaLays.l1_succ (k n : Nat) (x44 : Sl) (x45 : Sl) (x46 : Int) (x47 : Int) (h48 : H) : corbellaw19_MetaLays.l1 k (n + 1) x44 x45 x46 x47 h48 = (cond (decide (x47 < x46))
      ((asP (ixs 1 x44.a x44.n x47)).bind fun p49 =>
    (asS (ldc h48 p49)).bind fun s50 =>
    (asT (txt h48 (Value.slice s50.a s50.n s50.c))).bind fun s51 =>
    (asP (ixs 1 x45.a x45.n x47)).bind fun p52 =>
    (asS (ldc h48 p52)).bind fun s53 =>
    (asT (txt h48 (Value.slice s53.a s53.n s53.c))).bind fun s54 =>
    cond (!(s51.toList == s54.toList))
      (some (Sum.inl false, h48))
      (corbellaw19_MetaLays.l1 k n x44 x45 x46 (wrapA .i64 (x47 + (1 : Int))) h48))
      (some (Sum.inr (), h48))) := rfl
noncomputable def corbellaw19_MetaLays.l0 (k : Nat) (n : Nat) : Sl → Int → Sl → Int → H → Option ((Unit) × H) :=
  Nat.rec (motive := fun _ => Sl → Int → Sl → Int → H → Option ((Unit) × H)) (fun _ _ _ _ _ => none) (fun _ ih x19 x20 x21 x22 h23 => (cond (decide (x22 < (Int.ofNat x19.n))) (some (decide (x22 < (2 : Int)), h23))
      (some (false, h23))).bind fun g24 =>
    cond g24.1
      ((asP (ixs 1 x19.a x19.n x22)).bind fun p25 =>
    (asI .i64 (ldc g24.2 p25)).bind fun n26 =>
    (corbelhand_Pick.f k n26 (Int.ofNat x21.n) g24.2).bind fun q27 =>
    (asP (ixs 1 x21.a x21.n q27.1)).bind fun p28 =>
    (asI .u8 (ldc q27.2 p28)).bind fun n29 =>
    (asI .u8 (intA .xor .u8 n29 x20)).bind fun n30 =>
    (asP (ixs 1 x21.a x21.n q27.1)).bind fun p31 =>
    (stv 1 q27.2 p31 [(Value.int .u8 n30)]).bind fun q32 =>
    ih x19 x20 x21 (wrapA .i64 (x22 + (1 : Int))) q32.2)
      (some ((), g24.2))) n
theorem corbellaw19_MetaLays.l0_zero (k : Nat) (x19 : Sl) (x20 : Int) (x21 : Sl) (x22 : Int) (h23 : H) : corbellaw19_MetaLays.l0 k 0 x19 x20 x21 x22 h23 = none := rfl
theorem corbellaw19_MetaLays.l0_succ (k n : Nat) (x19 : Sl) (x20 : Int) (x21 : Sl) (x22 : Int) (h23 : H) : corbellaw19_MetaLays.l0 k (n + 1) x19 x20 x21 x22 h23 = ((cond (decide (x22 < (Int.ofNat x19.n))) (some (decide (x22 < (2 : Int)), h23))
      (some (false, h23))).bind fun g24 =>
    cond g24.1
      ((asP (ixs 1 x19.a x19.n x22)).bind fun p25 =>
    (asI .i64 (ldc g24.2 p25)).bind fun n26 =>
    (corbelhand_Pick.f k n26 (Int.ofNat x21.n) g24.2).bind fun q27 =>
    (asP (ixs 1 x21.a x21.n q27.1)).bind fun p28 =>
    (asI .u8 (ldc q27.2 p28)).bind fun n29 =>
    (asI .u8 (intA .xor .u8 n29 x20)).bind fun n30 =>
    (asP (ixs 1 x21.a x21.n q27.1)).bind fun p31 =>
    (stv 1 q27.2 p31 [(Value.int .u8 n30)]).bind fun q32 =>
    corbellaw19_MetaLays.l0 k n x19 x20 x21 (wrapA .i64 (x22 + (1 : Int))) q32.2)
      (some ((), g24.2))) := rfl
noncomputable def corbellaw19_MetaLays.f (k : Nat) (a0 : Sl) (a1 : Int) (a2 : Sl) (a3 : Int) (a4 : Sl) (a5 : Int) (h : H) : Option ((Bool) × H) :=
  (corbellaw19_of.f k a0 h).bind fun q1 =>
    (cond ((a1.tmod (7 : Int)) == (6 : Int)) (some (decide ((Int.ofNat q1.1.n) > (0 : Int)), q1.2))
      (some (false, q1.2))).bind fun g2 =>
    (cond g2.1
      ((corbelhand_Pick.f k a1 (Int.ofNat q1.1.n) g2.2).bind fun q3 =>
    (corbelhand_Odd.f k a1 (⟨#[120]⟩ : ByteArray) q3.2).bind fun q4 =>
    (asP (ixs 5 q1.1.a q1.1.n q3.1)).bind fun p5 =>
    (asP (fadd 1 p5)).bind fun p6 =>
    (stv 1 q4.2 p6 [(Value.string q4.1)]).bind fun q7 =>
    some ((), q7.2))
      (some ((), g2.2)) : Option ((Unit) × H)).bind fun j8 =>
    (meta_Lay.f k q1.1 j8.2).bind fun q9 =>
    (corbelref16_Lay.f k q1.1 q9.2).bind fun q10 =>
    (asT (txt q10.2 (Value.slice q9.1.1.a q9.1.1.n q9.1.1.c))).bind fun s11 =>
    (asT (txt q10.2 (Value.slice q10.1.1.a q10.1.1.n q10.1.1.c))).bind fun s12 =>
    (cond (!(s11.toList == s12.toList)) (some (true, q10.2))
      (some (!((q9.1.2 == (0 : Int)) == q10.1.2), q10.2))).bind fun g13 =>
    (cond g13.1 (some (true, g13.2))
      ((cond (!q10.1.2) (some (q9.1.2 != (1 : Int), g13.2))
      (some (false, g13.2))).bind fun g14 =>
    some (g14.1, g14.2))).bind fun g15 =>
    cond g15.1
      (some (false, g15.2))
      ((corbelhand_Few.f k a2 (Int.ofNat a2.n) g15.2).bind fun q16 =>
    (cond q10.1.2 (some (decide ((a3.tmod (4 : Int)) > (0 : Int)), q16.2))
      (some (false, q16.2))).bind fun g17 =>
    (cond g17.1
      ((corbelhand_Few.f k q10.1.1 (Int.ofNat q10.1.1.n) g17.2).bind fun q18 =>
    (corbellaw19_MetaLays.l0 k k a4 a5 q18.1 (0 : Int) q18.2).bind fun w33 =>
    some (q18.1, w33.2))
      (some (q16.1, g17.2)) : Option ((Sl) × H)).bind fun j34 =>
    (meta_Read.f k j34.1 j34.2).bind fun q35 =>
    (corbelref16_Read.f k j34.1 q35.2).bind fun q36 =>
    (meta_Cut.f k j34.1 q36.2).bind fun q37 =>
    (corbelref16_Cut.f k j34.1 q37.2).bind fun q38 =>
    (cond ((Int.ofNat q37.1.n) != (Int.ofNat q38.1.n)) (some (true, q38.2))
      (some (!((q35.1.2 == (0 : Int)) == q36.1.2), q38.2))).bind fun g39 =>
    (cond g39.1 (some (true, g39.2))
      ((cond (!q36.1.2) (some (q35.1.2 != (2 : Int), g39.2))
      (some (false, g39.2))).bind fun g40 =>
    some (g40.1, g40.2))).bind fun g41 =>
    (cond g41.1 (some (true, g41.2))
      ((corbelref16_SameTree.f k q35.1.1 q36.1.1 g41.2).bind fun q42 =>
    some (!q42.1, q42.2))).bind fun g43 =>
    cond g43.1
      (some (false, g43.2))
      ((corbellaw19_MetaLays.l1 k k q37.1 q38.1 (Int.ofNat q37.1.n) (0 : Int) g43.2).bind fun w55 =>
    match w55.1 with
    | .inl r56 => some (r56, w55.2)
    | .inr o57 => some (true, w55.2)))
noncomputable def corbellaw19_MetaLays.T (k : Nat) : Tbl := tblOf [⟨43, anyArgs, wr [.sl] [.sl] (fun a h => corbellaw19_of.f k a h)⟩,
  ⟨19, anyArgs, wr [(.int .i64), (.int .i64)] [(.int .i64)] (fun a h => corbelhand_Pick.f k (a.1) (a.2) h)⟩,
  ⟨44, anyArgs, wr [(.int .i64), .str] [.str] (fun a h => corbelhand_Odd.f k (a.1) (a.2) h)⟩,
  ⟨39, anyArgs, wr [.sl] [.sl, (.int .i64)] (fun a h => meta_Lay.f k a h)⟩,
  ⟨45, anyArgs, wr [.sl] [.sl, .bool] (fun a h => corbelref16_Lay.f k a h)⟩,
  ⟨35, anyArgs, wr [.sl, (.int .i64)] [.sl] (fun a h => corbelhand_Few.f k (a.1) (a.2) h)⟩,
  ⟨40, anyArgs, wr [.sl] [.sl, (.int .i64)] (fun a h => meta_Read.f k a h)⟩,
  ⟨46, anyArgs, wr [.sl] [.sl, .bool] (fun a h => corbelref16_Read.f k a h)⟩,
  ⟨41, anyArgs, wr [.sl] [.sl] (fun a h => meta_Cut.f k a h)⟩,
  ⟨47, anyArgs, wr [.sl] [.sl] (fun a h => corbelref16_Cut.f k a h)⟩,
  ⟨42, anyArgs, wr [.sl, .sl] [.bool] (fun a h => corbelref16_SameTree.f k (a.1) (a.2) h)⟩,
  ⟨38, anyArgs, knownW⟩]
noncomputable def corbellaw19_MetaLays.an (k : Nat) (p : Nat) : Option Ann := cond (Nat.beq p 131066) (some (.pass [] (lrun [(24, .sl), (25, .sl), (152, (.int .i64)), (153, (.int .i64))] (some [(12, .bool)]) [] 2 (fun a h => corbellaw19_MetaLays.l1 k k (a.1) (a.2.1) (a.2.2.1) (a.2.2.2) h))))
  (cond (Nat.beq p 1021) (some (.join [] none [(18, .sl)]))
  (cond (Nat.beq p 16342) (some (.pass [18] (lrun [(4, .sl), (5, (.int .u8)), (18, .sl), (19, (.int .i64))] none [] 0 (fun a h => corbellaw19_MetaLays.l0 k k (a.1) (a.2.1) (a.2.2.1) (a.2.2.2) h))))
  (cond (Nat.beq p 29) (some (.join [2, 3, 4, 5, 13] none []))
  (none))))
noncomputable def corbellaw19_MetaLays.body : Code := (Try.f10.body).getD .skip
noncomputable def corbellaw19_MetaLays.c16342 : Code := cat corbellaw19_MetaLays.body [1, 1, 1, 1, 1, 1, 1, 0, 1, 0, 1, 1, 0, 0]
noncomputable def corbellaw19_MetaLays.c131066 : Code := cat corbellaw19_MetaLays.body [1, 1, 1, 1, 1, 1, 1, 1, 1, 1, 1, 1, 1, 0, 1, 0, 0]
set_option maxRecDepth 100000 in
theorem corbellaw19_MetaLays.TS {C : FuncId → Bool} {X : CallF} (hX : XOk C X) (hK38 : KOk X 38) (hK114 : CmpOk X 114) (k : Nat) : TblS Try.prog C X (corbellaw19_MetaLays.T k) := by
  refine tblOf_sound ?_
  intro e he
  rcases List.mem_cons.1 he with rfl | he
  · exact wr_told (corbellaw19_of.told hX k)
  rcases List.mem_cons.1 he with rfl | he
  · exact wr_told (corbelhand_Pick.told hX k)
  rcases List.mem_cons.1 he with rfl | he
  · exact wr_told (corbelhand_Odd.told hX k)
  rcases List.mem_cons.1 he with rfl | he
  · exact wr_told (meta_Lay.told hX hK114 k)
  rcases List.mem_cons.1 he with rfl | he
  · exact wr_told (corbelref16_Lay.told hX k)
  rcases List.mem_cons.1 he with rfl | he
  · exact wr_told (corbelhand_Few.told hX k)
  rcases List.mem_cons.1 he with rfl | he
  · exact wr_told (meta_Read.told hX hK114 k)
  rcases List.mem_cons.1 he with rfl | he
  · exact wr_told (corbelref16_Read.told hX k)
  rcases List.mem_cons.1 he with rfl | he
  · exact wr_told (meta_Cut.told hX k)
  rcases List.mem_cons.1 he with rfl | he
  · exact wr_told (corbelref16_Cut.told hX k)
  rcases List.mem_cons.1 he with rfl | he
  · exact wr_told (corbelref16_SameTree.told hX k)
  rcases List.mem_cons.1 he with rfl | he
  · exact knownW_told hK38
  exact absurd he List.not_mem_nil
set_option maxRecDepth 100000 in
theorem corbellaw19_MetaLays.l1_pass {C : FuncId → Bool} {X : CallF} (hX : XOk C X) (hK38 : KOk X 38) (hK114 : CmpOk X 114) (k n : Nat) : PassS Try.prog C X 169 (.loop corbellaw19_MetaLays.c131066) (lrun [(24, .sl), (25, .sl), (152, (.int .i64)), (153, (.int .i64))] (some [(12, .bool)]) [] 2 (fun a h => corbellaw19_MetaLays.l1 k n (a.1) (a.2.1) (a.2.2.1) (a.2.2.2) h)) :=
  loop_pass (ins := [(24, .sl), (25, .sl), (152, (.int .i64)), (153, (.int .i64))]) (rets := (some [(12, .bool)])) (outs := []) (id := 2) (tbl := corbellaw19_MetaLays.T k) (an := corbellaw19_MetaLays.an k) (pb := 262132) (corbellaw19_MetaLays.TS hX hK38 hK114 k) (fun n => (fun a h => corbellaw19_MetaLays.l1 k n (a.1) (a.2.1) (a.2.2.1) (a.2.2.2) h)) (fun a h => rfl) (fun n a h => by kernel_rfl)
    (by
      have e : need (corbellaw19_MetaLays.an k) corbellaw19_MetaLays.c131066 262132 = [] := by kernel_rfl
      rw [e]; intro q hq; cases hq) n
set_option maxRecDepth 100000 in
theorem corbellaw19_MetaLays.l0_pass {C : FuncId → Bool} {X : CallF} (hX : XOk C X) (hK38 : KOk X 38) (hK114 : CmpOk X 114) (k n : Nat) : PassS Try.prog C X 169 (.loop corbellaw19_MetaLays.c16342) (lrun [(4, .sl), (5, (.int .u8)), (18, .sl), (19, (.int .i64))] none [] 0 (fun a h => corbellaw19_MetaLays.l0 k n (a.1) (a.2.1) (a.2.2.1) (a.2.2.2) h)) :=
  loop_pass (ins := [(4, .sl), (5, (.int .u8)), (18, .sl), (19, (.int .i64))]) (rets := none) (outs := []) (id := 0) (tbl := corbellaw19_MetaLays.T k) (an := corbellaw19_MetaLays.an k) (pb := 32684) (corbellaw19_MetaLays.TS hX hK38 hK114 k) (fun n => (fun a h => corbellaw19_MetaLays.l0 k n (a.1) (a.2.1) (a.2.2.1) (a.2.2.2) h)) (fun a h => rfl) (fun n a h => by kernel_rfl)
    (by
      have e : need (corbellaw19_MetaLays.an k) corbellaw19_MetaLays.c16342 32684 = [] := by kernel_rfl
      rw [e]; intro q hq; cases hq) n
set_option maxRecDepth 100000 in
theorem corbellaw19_MetaLays.eq (k : Nat) (a : RT [.sl, (.int .i64), .sl, (.int .i64), .sl, (.int .u8)]) (h : H) : (fun a h => corbellaw19_MetaLays.f k (a.1) (a.2.1) (a.2.2.1) (a.2.2.2.1) (a.2.2.2.2.1) (a.2.2.2.2.2) h) a h = kfun Try.prog (corbellaw19_MetaLays.T k) (corbellaw19_MetaLays.an k) (RT [.bool] × H) Try.f10 (encL [.sl, (.int .i64), .sl, (.int .i64), .sl, (.int .u8)] a) h (fun vs h' => (decL [.bool] vs).bind fun x => some (x, h')) := by kernel_rfl
set_option maxRecDepth 100000 in
theorem corbellaw19_MetaLays.told {C : FuncId → Bool} {X : CallF} (hX : XOk C X) (hK38 : KOk X 38) (hK114 : CmpOk X 114) (k : Nat) : Den.Told Try.prog C X 10 [.sl, (.int .i64), .sl, (.int .i64), .sl, (.int .u8)] [.bool] (fun a h => corbellaw19_MetaLays.f k (a.1) (a.2.1) (a.2.2.1) (a.2.2.2.1) (a.2.2.2.2.1) (a.2.2.2.2.2) h) :=
  told_of fun a h q e => fn_of (c := corbellaw19_MetaLays.body) (corbellaw19_MetaLays.TS hX hK38 hK114 k) Try.func10 (by kernel_rfl) (hX.no 10 _ h (by decide))
    (by
      have e : need (corbellaw19_MetaLays.an k) corbellaw19_MetaLays.body 1 = [(Code.loop corbellaw19_MetaLays.c16342, lrun [(4, .sl), (5, (.int .u8)), (18, .sl), (19, (.int .i64))] none [] 0 (fun a h => corbellaw19_MetaLays.l0 k k (a.1) (a.2.1) (a.2.2.1) (a.2.2.2) h)), (Code.loop corbellaw19_MetaLays.c131066, lrun [(24, .sl), (25, .sl), (152, (.int .i64)), (153, (.int .i64))] (some [(12, .bool)]) [] 2 (fun a h => corbellaw19_MetaLays.l1 k k (a.1) (a.2.1) (a.2.2.1) (a.2.2.2) h))] := by kernel_rfl
      rw [e]; intro q hq
      rcases List.mem_cons.1 hq with rfl | hq
      · exact corbellaw19_MetaLays.l0_pass hX hK38 hK114 k k
      rcases List.mem_cons.1 hq with rfl | hq
      · exact corbellaw19_MetaLays.l1_pass hX hK38 hK114 k k
      cases hq)
    ((corbellaw19_MetaLays.eq k a h).symm.trans e)
end Go.Proofs.Ytfenkpghcbohdaa.Fwd
