/- Forward runs of functions of the program, printed by a program of this session: each function on plain values and memory, and that the code comes to it. No condition. -/
import Derived.Test.YtfenkpghcbohdaaDenCmp
import Derived.KernelRfl
namespace Go.Proofs.Ytfenkpghcbohdaa.Fwd
open Go Den
set_option linter.unusedVariables false
/-! ### corbel/corbelhand.Pick -/
noncomputable def corbelhand_Pick.f (k : Nat) (a0 : Int) (a1 : Int) (h : H) : Option ((Int) × H) :=
  (asI .i64 (intA .rem .i64 a0 a1)).bind fun n1 =>
    (cond (decide (n1 < (0 : Int)))
      (some (wrapA .i64 (n1 + a1), h))
      (some (n1, h)) : Option ((Int) × H)).bind fun j2 =>
    some (j2.1, j2.2)
noncomputable def corbelhand_Pick.T (k : Nat) : Tbl := tblOf []
noncomputable def corbelhand_Pick.an (k : Nat) (p : Nat) : Option Ann := cond (Nat.beq p 29) (some (.join [] none [(0, (.int .i64))]))
  (none)
noncomputable def corbelhand_Pick.body : Code := (Try.f19.body).getD .skip
set_option maxRecDepth 100000 in
theorem corbelhand_Pick.TS {C : FuncId → Bool} {X : CallF} (hX : XOk C X) (k : Nat) : TblS Try.prog C X (corbelhand_Pick.T k) := by
  refine tblOf_sound ?_
  intro e he
  exact absurd he List.not_mem_nil
set_option maxRecDepth 100000 in
theorem corbelhand_Pick.eq (k : Nat) (a : RT [(.int .i64), (.int .i64)]) (h : H) : (fun a h => corbelhand_Pick.f k (a.1) (a.2) h) a h = kfun Try.prog (corbelhand_Pick.T k) (corbelhand_Pick.an k) (RT [(.int .i64)] × H) Try.f19 (encL [(.int .i64), (.int .i64)] a) h (fun vs h' => (decL [(.int .i64)] vs).bind fun x => some (x, h')) := by kernel_rfl
set_option maxRecDepth 100000 in
theorem corbelhand_Pick.told {C : FuncId → Bool} {X : CallF} (hX : XOk C X) (k : Nat) : Den.Told Try.prog C X 19 [(.int .i64), (.int .i64)] [(.int .i64)] (fun a h => corbelhand_Pick.f k (a.1) (a.2) h) :=
  told_of fun a h q e => fn_of (c := corbelhand_Pick.body) (corbelhand_Pick.TS hX k) Try.func19 (by kernel_rfl) (hX.no 19 _ h (by decide))
    (by
      have e : need (corbelhand_Pick.an k) corbelhand_Pick.body 1 = [] := by kernel_rfl
      rw [e]; intro q hq; cases hq)
    ((corbelhand_Pick.eq k a h).symm.trans e)
/-! ### corbel/meta.within -/
noncomputable def meta_within.f (k : Nat) (a0 : Int) (a1 : Int) (a2 : Int) (h : H) : Option ((Bool) × H) :=
  (cond (decide (a0 ≥ a1)) (some (decide (a0 ≤ a2), h))
      (some (false, h))).bind fun g1 =>
    some (g1.1, g1.2)
noncomputable def meta_within.T (k : Nat) : Tbl := tblOf []
noncomputable def meta_within.an (k : Nat) (p : Nat) : Option Ann := none
noncomputable def meta_within.body : Code := (Try.f73.body).getD .skip
set_option maxRecDepth 100000 in
theorem meta_within.TS {C : FuncId → Bool} {X : CallF} (hX : XOk C X) (k : Nat) : TblS Try.prog C X (meta_within.T k) := by
  refine tblOf_sound ?_
  intro e he
  exact absurd he List.not_mem_nil
set_option maxRecDepth 100000 in
theorem meta_within.eq (k : Nat) (a : RT [(.int .i64), (.int .i64), (.int .i64)]) (h : H) : (fun a h => meta_within.f k (a.1) (a.2.1) (a.2.2) h) a h = kfun Try.prog (meta_within.T k) (meta_within.an k) (RT [.bool] × H) Try.f73 (encL [(.int .i64), (.int .i64), (.int .i64)] a) h (fun vs h' => (decL [.bool] vs).bind fun x => some (x, h')) := by kernel_rfl
set_option maxRecDepth 100000 in
theorem meta_within.told {C : FuncId → Bool} {X : CallF} (hX : XOk C X) (k : Nat) : Den.Told Try.prog C X 73 [(.int .i64), (.int .i64), (.int .i64)] [.bool] (fun a h => meta_within.f k (a.1) (a.2.1) (a.2.2) h) :=
  told_of fun a h q e => fn_of (c := meta_within.body) (meta_within.TS hX k) Try.func73 (by kernel_rfl) (hX.no 73 _ h (by decide))
    (by
      have e : need (meta_within.an k) meta_within.body 1 = [] := by kernel_rfl
      rw [e]; intro q hq; cases hq)
    ((meta_within.eq k a h).symm.trans e)
/-! ### corbel/meta.bytes -/
noncomputable def meta_bytes.l0 (k : Nat) (n : Nat) : Int → Sl → Int → H → Option ((Sl) × H) :=
  Nat.rec (motive := fun _ => Int → Sl → Int → H → Option ((Sl) × H)) (fun _ _ _ _ => none) (fun _ ih x1 x2 x3 h4 => cond (decide (x3 ≥ (0 : Int)))
      ((asI .i64 (binA Try.prog .shr 3 (Value.int .i64 x1) (Value.int .i64 (wrapA .i64 ((8 : Int) * x3))))).bind fun n5 =>
    (asS2 (apv 5 1 1 (Value.slice x2.a x2.n x2.c) (Value.slice (some ⟨h4.next, 0, none⟩) 1 1) (newR h4 5 1 [(Value.int .u8 (wrapA .u8 n5))]))).bind fun q6 =>
    ih x1 q6.1 (wrapA .i64 (x3 - (1 : Int))) q6.2)
      (some (x2, h4))) n
theorem meta_bytes.l0_zero (k : Nat) (x1 : Int) (x2 : Sl) (x3 : Int) (h4 : H) : meta_bytes.l0 k 0 x1 x2 x3 h4 = none := rfl
theorem meta_bytes.l0_succ (k n : Nat) (x1 : Int) (x2 : Sl) (x3 : Int) (h4 : H) : meta_bytes.l0 k (n + 1) x1 x2 x3 h4 = (cond (decide (x3 ≥ (0 : Int)))
      ((asI .i64 (binA Try.prog .shr 3 (Value.int .i64 x1) (Value.int .i64 (wrapA .i64 ((8 : Int) * x3))))).bind fun n5 =>
    (asS2 (apv 5 1 1 (Value.slice x2.a x2.n x2.c) (Value.slice (some ⟨h4.next, 0, none⟩) 1 1) (newR h4 5 1 [(Value.int .u8 (wrapA .u8 n5))]))).bind fun q6 =>
    meta_bytes.l0 k n x1 q6.1 (wrapA .i64 (x3 - (1 : Int))) q6.2)
      (some (x2, h4))) := rfl
noncomputable def meta_bytes.f (k : Nat) (a0 : Int) (a1 : Int) (h : H) : Option ((Sl) × H) :=
  (meta_bytes.l0 k k a0 (⟨none, 0, 0⟩ : Sl) (wrapA .i64 (a1 - (1 : Int))) h).bind fun w7 =>
    some (w7.1, w7.2)
noncomputable def meta_bytes.T (k : Nat) : Tbl := tblOf []
noncomputable def meta_bytes.an (k : Nat) (p : Nat) : Option Ann := cond (Nat.beq p 58) (some (.pass [] (lrun [(0, (.int .i64)), (5, .sl), (6, (.int .i64))] none [(5, .sl)] 0 (fun a h => meta_bytes.l0 k k (a.1) (a.2.1) (a.2.2) h))))
  (none)
noncomputable def meta_bytes.body : Code := (Try.f75.body).getD .skip
noncomputable def meta_bytes.c58 : Code := cat meta_bytes.body [1, 1, 0, 1, 0, 0]
set_option maxRecDepth 100000 in
theorem meta_bytes.TS {C : FuncId → Bool} {X : CallF} (hX : XOk C X) (k : Nat) : TblS Try.prog C X (meta_bytes.T k) := by
  refine tblOf_sound ?_
  intro e he
  exact absurd he List.not_mem_nil
set_option maxRecDepth 100000 in
theorem meta_bytes.l0_pass {C : FuncId → Bool} {X : CallF} (hX : XOk C X) (k n : Nat) : PassS Try.prog C X 22 (.loop meta_bytes.c58) (lrun [(0, (.int .i64)), (5, .sl), (6, (.int .i64))] none [(5, .sl)] 0 (fun a h => meta_bytes.l0 k n (a.1) (a.2.1) (a.2.2) h)) :=
  loop_pass (ins := [(0, (.int .i64)), (5, .sl), (6, (.int .i64))]) (rets := none) (outs := [(5, .sl)]) (id := 0) (tbl := meta_bytes.T k) (an := meta_bytes.an k) (pb := 116) (meta_bytes.TS hX k) (fun n => (fun a h => meta_bytes.l0 k n (a.1) (a.2.1) (a.2.2) h)) (fun a h => rfl) (fun n a h => by kernel_rfl)
    (by
      have e : need (meta_bytes.an k) meta_bytes.c58 116 = [] := by kernel_rfl
      rw [e]; intro q hq; cases hq) n
set_option maxRecDepth 100000 in
theorem meta_bytes.eq (k : Nat) (a : RT [(.int .i64), (.int .i64)]) (h : H) : (fun a h => meta_bytes.f k (a.1) (a.2) h) a h = kfun Try.prog (meta_bytes.T k) (meta_bytes.an k) (RT [.sl] × H) Try.f75 (encL [(.int .i64), (.int .i64)] a) h (fun vs h' => (decL [.sl] vs).bind fun x => some (x, h')) := by kernel_rfl
set_option maxRecDepth 100000 in
theorem meta_bytes.told {C : FuncId → Bool} {X : CallF} (hX : XOk C X) (k : Nat) : Den.Told Try.prog C X 75 [(.int .i64), (.int .i64)] [.sl] (fun a h => meta_bytes.f k (a.1) (a.2) h) :=
  told_of fun a h q e => fn_of (c := meta_bytes.body) (meta_bytes.TS hX k) Try.func75 (by kernel_rfl) (hX.no 75 _ h (by decide))
    (by
      have e : need (meta_bytes.an k) meta_bytes.body 1 = [(Code.loop meta_bytes.c58, lrun [(0, (.int .i64)), (5, .sl), (6, (.int .i64))] none [(5, .sl)] 0 (fun a h => meta_bytes.l0 k k (a.1) (a.2.1) (a.2.2) h))] := by kernel_rfl
      rw [e]; intro q hq
      rcases List.mem_cons.1 hq with rfl | hq
      · exact meta_bytes.l0_pass hX k k
      cases hq)
    ((meta_bytes.eq k a h).symm.trans e)
/-! ### slices.Grow[[]byte,byte] -/
noncomputable def slices_Grow_byte_byte.f (k : Nat) (a0 : Sl) (a1 : Int) (h : H) : Option ((Sl) × H) :=
  (cond (decide (a1 < (0 : Int)))
      (none)
      (some ((), h)) : Option ((Unit) × H)).bind fun j1 =>
    (asI2 .i64 (pv j1.2 (capV a0.a a0.c))).bind fun q2 =>
    (cond (decide ((wrapA .i64 (a1 - (wrapA .i64 (q2.1 - (Int.ofNat a0.n))))) > (0 : Int)))
      ((asI2 .i64 (pv q2.2 (capV a0.a a0.c))).bind fun q3 =>
    (asS (subs 1 (Value.slice a0.a a0.n a0.c) none (some q3.1))).bind fun s4 =>
    (asS2 (apz 5 1 1 [(Value.int .u8 (0 : Int))] (Value.slice s4.a s4.n s4.c) (wrapA .i64 (a1 - (wrapA .i64 (q2.1 - (Int.ofNat a0.n))))) q3.2)).bind fun q5 =>
    (asS (subs 1 (Value.slice q5.1.a q5.1.n q5.1.c) none (some (Int.ofNat a0.n)))).bind fun s6 =>
    some (s6, q5.2))
      (some (a0, q2.2)) : Option ((Sl) × H)).bind fun j7 =>
    some (j7.1, j7.2)
noncomputable def slices_Grow_byte_byte.T (k : Nat) : Tbl := tblOf []
noncomputable def slices_Grow_byte_byte.an (k : Nat) (p : Nat) : Option Ann := cond (Nat.beq p 59) (some (.join [] none [(0, .sl)]))
  (cond (Nat.beq p 13) (some (.join [0, 1] none []))
  (none))
noncomputable def slices_Grow_byte_byte.body : Code := (Try.f105.body).getD .skip
set_option maxRecDepth 100000 in
theorem slices_Grow_byte_byte.TS {C : FuncId → Bool} {X : CallF} (hX : XOk C X) (k : Nat) : TblS Try.prog C X (slices_Grow_byte_byte.T k) := by
  refine tblOf_sound ?_
  intro e he
  exact absurd he List.not_mem_nil
set_option maxRecDepth 100000 in
theorem slices_Grow_byte_byte.eq (k : Nat) (a : RT [.sl, (.int .i64)]) (h : H) : (fun a h => slices_Grow_byte_byte.f k (a.1) (a.2) h) a h = kfun Try.prog (slices_Grow_byte_byte.T k) (slices_Grow_byte_byte.an k) (RT [.sl] × H) Try.f105 (encL [.sl, (.int .i64)] a) h (fun vs h' => (decL [.sl] vs).bind fun x => some (x, h')) := by kernel_rfl
set_option maxRecDepth 100000 in
theorem slices_Grow_byte_byte.told {C : FuncId → Bool} {X : CallF} (hX : XOk C X) (k : Nat) : Den.Told Try.prog C X 105 [.sl, (.int .i64)] [.sl] (fun a h => slices_Grow_byte_byte.f k (a.1) (a.2) h) :=
  told_of fun a h q e => fn_of (c := slices_Grow_byte_byte.body) (slices_Grow_byte_byte.TS hX k) Try.func105 (by kernel_rfl) (hX.no 105 _ h (by decide))
    (by
      have e : need (slices_Grow_byte_byte.an k) slices_Grow_byte_byte.body 1 = [] := by kernel_rfl
      rw [e]; intro q hq; cases hq)
    ((slices_Grow_byte_byte.eq k a h).symm.trans e)
/-! ### slices.Concat[[]byte,byte] -/
noncomputable def slices_Concat_byte_byte.l1 (k : Nat) (n : Nat) : Sl → Int → Sl → Int → H → Option ((Sl) × H) :=
  Nat.rec (motive := fun _ => Sl → Int → Sl → Int → H → Option ((Sl) × H)) (fun _ _ _ _ _ => none) (fun _ ih x12 x13 x14 x15 h16 => cond (decide (x15 < x13))
      ((asP (ixs 1 x12.a x12.n x15)).bind fun p17 =>
    (asS (ldc h16 p17)).bind fun s18 =>
    (asS2 (apv 5 1 1 (Value.slice x14.a x14.n x14.c) (Value.slice s18.a s18.n s18.c) h16)).bind fun q19 =>
    ih x12 x13 q19.1 (wrapA .i64 (x15 + (1 : Int))) q19.2)
      (some (x14, h16))) n
theorem slices_Concat_byte_byte.l1_zero (k : Nat) (x12 : Sl) (x13 : Int) (x14 : Sl) (x15 : Int) (h16 : H) : slices_Concat_byte_byte.l1 k 0 x12 x13 x14 x15 h16 = none := rfl
theorem slices_Concat_byte_byte.l1_succ (k n : Nat) (x12 : Sl) (x13 : Int) (x14 : Sl) (x15 : Int) (h16 : H) : slices_Concat_byte_byte.l1 k (n + 1) x12 x13 x14 x15 h16 = (cond (decide (x15 < x13))
      ((asP (ixs 1 x12.a x12.n x15)).bind fun p17 =>
    (asS (ldc h16 p17)).bind fun s18 =>
    (asS2 (apv 5 1 1 (Value.slice x14.a x14.n x14.c) (Value.slice s18.a s18.n s18.c) h16)).bind fun q19 =>
    slices_Concat_byte_byte.l1 k n x12 x13 q19.1 (wrapA .i64 (x15 + (1 : Int))) q19.2)
      (some (x14, h16))) := rfl
noncomputable def slices_Concat_byte_byte.l0 (k : Nat) (n : Nat) : Sl → Sl → Int → Int → Int → H → Option ((Int) × H) :=
  Nat.rec (motive := fun _ => Sl → Sl → Int → Int → Int → H → Option ((Int) × H)) (fun _ _ _ _ _ _ => none) (fun _ ih x1 x2 x3 x4 x5 h6 => cond (decide (x5 < x3))
      ((asP (ixs 1 x2.a x2.n x5)).bind fun p7 =>
    (asS (ldc h6 p7)).bind fun s8 =>
    (cond (decide ((wrapA .i64 (x4 + (Int.ofNat s8.n))) < (0 : Int)))
      (none)
      (some ((), h6)) : Option ((Unit) × H)).bind fun j9 =>
    ih x1 x2 x3 (wrapA .i64 (x4 + (Int.ofNat s8.n))) (wrapA .i64 (x5 + (1 : Int))) j9.2)
      (some (x4, h6))) n
theorem slices_Concat_byte_byte.l0_zero (k : Nat) (x1 : Sl) (x2 : Sl) (x3 : Int) (x4 : Int) (x5 : Int) (h6 : H) : slices_Concat_byte_byte.l0 k 0 x1 x2 x3 x4 x5 h6 = none := rfl
theorem slices_Concat_byte_byte.l0_succ (k n : Nat) (x1 : Sl) (x2 : Sl) (x3 : Int) (x4 : Int) (x5 : Int) (h6 : H) : slices_Concat_byte_byte.l0 k (n + 1) x1 x2 x3 x4 x5 h6 = (cond (decide (x5 < x3))
      ((asP (ixs 1 x2.a x2.n x5)).bind fun p7 =>
    (asS (ldc h6 p7)).bind fun s8 =>
    (cond (decide ((wrapA .i64 (x4 + (Int.ofNat s8.n))) < (0 : Int)))
      (none)
      (some ((), h6)) : Option ((Unit) × H)).bind fun j9 =>
    slices_Concat_byte_byte.l0 k n x1 x2 x3 (wrapA .i64 (x4 + (Int.ofNat s8.n))) (wrapA .i64 (x5 + (1 : Int))) j9.2)
      (some (x4, h6))) := rfl
noncomputable def slices_Concat_byte_byte.f (k : Nat) (a0 : Sl) (h : H) : Option ((Sl) × H) :=
  (slices_Concat_byte_byte.l0 k k a0 a0 (Int.ofNat a0.n) (0 : Int) (0 : Int) h).bind fun w10 =>
    (slices_Grow_byte_byte.f k (⟨none, 0, 0⟩ : Sl) w10.1 w10.2).bind fun q11 =>
    (slices_Concat_byte_byte.l1 k k a0 (Int.ofNat a0.n) q11.1 (0 : Int) q11.2).bind fun w20 =>
    some (w20.1, w20.2)
noncomputable def slices_Concat_byte_byte.T (k : Nat) : Tbl := tblOf [⟨105, anyArgs, wr [.sl, (.int .i64)] [.sl] (fun a h => slices_Grow_byte_byte.f k (a.1) (a.2) h)⟩]
noncomputable def slices_Concat_byte_byte.an (k : Nat) (p : Nat) : Option Ann := cond (Nat.beq p 250) (some (.pass [] (lrun [(25, .sl), (26, (.int .i64)), (6, .sl), (27, (.int .i64))] none [(6, .sl)] 2 (fun a h => slices_Concat_byte_byte.l1 k k (a.1) (a.2.1) (a.2.2.1) (a.2.2.2) h))))
  (cond (Nat.beq p 58) (some (.pass [0] (lrun [(0, .sl), (9, .sl), (10, (.int .i64)), (3, (.int .i64)), (11, (.int .i64))] none [(3, (.int .i64))] 0 (fun a h => slices_Concat_byte_byte.l0 k k (a.1) (a.2.1) (a.2.2.1) (a.2.2.2.1) (a.2.2.2.2) h))))
  (cond (Nat.beq p 14951) (some (.join [0, 3, 9, 10, 11] none []))
  (none)))
noncomputable def slices_Concat_byte_byte.body : Code := (Try.f74.body).getD .skip
noncomputable def slices_Concat_byte_byte.c58 : Code := cat slices_Concat_byte_byte.body [1, 1, 0, 1, 0, 0]
noncomputable def slices_Concat_byte_byte.c250 : Code := cat slices_Concat_byte_byte.body [1, 1, 1, 1, 0, 1, 0, 0]
set_option maxRecDepth 100000 in
theorem slices_Concat_byte_byte.TS {C : FuncId → Bool} {X : CallF} (hX : XOk C X) (k : Nat) : TblS Try.prog C X (slices_Concat_byte_byte.T k) := by
  refine tblOf_sound ?_
  intro e he
  rcases List.mem_cons.1 he with rfl | he
  · exact wr_told (slices_Grow_byte_byte.told hX k)
  exact absurd he List.not_mem_nil
set_option maxRecDepth 100000 in
theorem slices_Concat_byte_byte.l1_pass {C : FuncId → Bool} {X : CallF} (hX : XOk C X) (k n : Nat) : PassS Try.prog C X 36 (.loop slices_Concat_byte_byte.c250) (lrun [(25, .sl), (26, (.int .i64)), (6, .sl), (27, (.int .i64))] none [(6, .sl)] 2 (fun a h => slices_Concat_byte_byte.l1 k n (a.1) (a.2.1) (a.2.2.1) (a.2.2.2) h)) :=
  loop_pass (ins := [(25, .sl), (26, (.int .i64)), (6, .sl), (27, (.int .i64))]) (rets := none) (outs := [(6, .sl)]) (id := 2) (tbl := slices_Concat_byte_byte.T k) (an := slices_Concat_byte_byte.an k) (pb := 500) (slices_Concat_byte_byte.TS hX k) (fun n => (fun a h => slices_Concat_byte_byte.l1 k n (a.1) (a.2.1) (a.2.2.1) (a.2.2.2) h)) (fun a h => rfl) (fun n a h => by kernel_rfl)
    (by
      have e : need (slices_Concat_byte_byte.an k) slices_Concat_byte_byte.c250 500 = [] := by kernel_rfl
      rw [e]; intro q hq; cases hq) n
set_option maxRecDepth 100000 in
theorem slices_Concat_byte_byte.l0_pass {C : FuncId → Bool} {X : CallF} (hX : XOk C X) (k n : Nat) : PassS Try.prog C X 36 (.loop slices_Concat_byte_byte.c58) (lrun [(0, .sl), (9, .sl), (10, (.int .i64)), (3, (.int .i64)), (11, (.int .i64))] none [(3, (.int .i64))] 0 (fun a h => slices_Concat_byte_byte.l0 k n (a.1) (a.2.1) (a.2.2.1) (a.2.2.2.1) (a.2.2.2.2) h)) :=
  loop_pass (ins := [(0, .sl), (9, .sl), (10, (.int .i64)), (3, (.int .i64)), (11, (.int .i64))]) (rets := none) (outs := [(3, (.int .i64))]) (id := 0) (tbl := slices_Concat_byte_byte.T k) (an := slices_Concat_byte_byte.an k) (pb := 116) (slices_Concat_byte_byte.TS hX k) (fun n => (fun a h => slices_Concat_byte_byte.l0 k n (a.1) (a.2.1) (a.2.2.1) (a.2.2.2.1) (a.2.2.2.2) h)) (fun a h => rfl) (fun n a h => by kernel_rfl)
    (by
      have e : need (slices_Concat_byte_byte.an k) slices_Concat_byte_byte.c58 116 = [] := by kernel_rfl
      rw [e]; intro q hq; cases hq) n
set_option maxRecDepth 100000 in
theorem slices_Concat_byte_byte.eq (k : Nat) (a : RT [.sl]) (h : H) : (fun a h => slices_Concat_byte_byte.f k a h) a h = kfun Try.prog (slices_Concat_byte_byte.T k) (slices_Concat_byte_byte.an k) (RT [.sl] × H) Try.f74 (encL [.sl] a) h (fun vs h' => (decL [.sl] vs).bind fun x => some (x, h')) := by kernel_rfl
set_option maxRecDepth 100000 in
theorem slices_Concat_byte_byte.told {C : FuncId → Bool} {X : CallF} (hX : XOk C X) (k : Nat) : Den.Told Try.prog C X 74 [.sl] [.sl] (fun a h => slices_Concat_byte_byte.f k a h) :=
  told_of fun a h q e => fn_of (c := slices_Concat_byte_byte.body) (slices_Concat_byte_byte.TS hX k) Try.func74 (by kernel_rfl) (hX.no 74 _ h (by decide))
    (by
      have e : need (slices_Concat_byte_byte.an k) slices_Concat_byte_byte.body 1 = [(Code.loop slices_Concat_byte_byte.c58, lrun [(0, .sl), (9, .sl), (10, (.int .i64)), (3, (.int .i64)), (11, (.int .i64))] none [(3, (.int .i64))] 0 (fun a h => slices_Concat_byte_byte.l0 k k (a.1) (a.2.1) (a.2.2.1) (a.2.2.2.1) (a.2.2.2.2) h)), (Code.loop slices_Concat_byte_byte.c250, lrun [(25, .sl), (26, (.int .i64)), (6, .sl), (27, (.int .i64))] none [(6, .sl)] 2 (fun a h => slices_Concat_byte_byte.l1 k k (a.1) (a.2.1) (a.2.2.1) (a.2.2.2) h))] := by kernel_rfl
      rw [e]; intro q hq
      rcases List.mem_cons.1 hq with rfl | hq
      · exact slices_Concat_byte_byte.l0_pass hX k k
      rcases List.mem_cons.1 hq with rfl | hq
      · exact slices_Concat_byte_byte.l1_pass hX k k
      cases hq)
    ((slices_Concat_byte_byte.eq k a h).symm.trans e)
/-! ### corbel/meta.LayRoot -/
noncomputable def meta_LayRoot.f (k : Nat) (a0 : (Int × Int × Int × Int)) (h : H) : Option ((Sl × Int) × H) :=
  (asI .i64 (ldc (newR h 46 4 [(Value.int .i64 a0.1), (Value.int .i64 a0.2.1), (Value.int .i64 a0.2.2.1), (Value.int .i64 a0.2.2.2)]) (some ⟨h.next, 0, none⟩))).bind fun n1 =>
    (meta_within.f k n1 (1 : Int) (1099511627776 : Int) (newR h 46 4 [(Value.int .i64 a0.1), (Value.int .i64 a0.2.1), (Value.int .i64 a0.2.2.1), (Value.int .i64 a0.2.2.2)])).bind fun q2 =>
    (cond (!q2.1) (some (true, q2.2))
      ((asI .i64 (ldc q2.2 (some ⟨h.next, 1, none⟩))).bind fun n3 =>
    (meta_within.f k n3 (0 : Int) (1 : Int) q2.2).bind fun q4 =>
    some (!q4.1, q4.2))).bind fun g5 =>
    (cond g5.1 (some (true, g5.2))
      ((asI .i64 (ldc g5.2 (some ⟨h.next, 2, none⟩))).bind fun n6 =>
    (meta_within.f k n6 (1 : Int) (1024 : Int) g5.2).bind fun q7 =>
    some (!q7.1, q7.2))).bind fun g8 =>
    (cond g8.1 (some (true, g8.2))
      ((asI .i64 (ldc g8.2 (some ⟨h.next, 3, none⟩))).bind fun n9 =>
    (meta_within.f k n9 (0 : Int) (4294967290 : Int) g8.2).bind fun q10 =>
    some (!q10.1, q10.2))).bind fun g11 =>
    cond g11.1
      (some (((⟨none, 0, 0⟩ : Sl), (1 : Int)), g11.2))
      ((asI .i64 (ldc (newZ g11.2 5 1 [(Value.int .u8 (0 : Int))] 128) (some ⟨h.next, 0, none⟩))).bind fun n12 =>
    (meta_bytes.f k n12 (6 : Int) (newZ g11.2 5 1 [(Value.int .u8 (0 : Int))] 128)).bind fun q13 =>
    (asI .i64 (ldc q13.2 (some ⟨h.next, 1, none⟩))).bind fun n14 =>
    (meta_bytes.f k n14 (1 : Int) q13.2).bind fun q15 =>
    (asI .i64 (ldc q15.2 (some ⟨h.next, 2, none⟩))).bind fun n16 =>
    (meta_bytes.f k n16 (2 : Int) q15.2).bind fun q17 =>
    (asI .i64 (ldc q17.2 (some ⟨h.next, 3, none⟩))).bind fun n18 =>
    (meta_bytes.f k n18 (4 : Int) q17.2).bind fun q19 =>
    (slices_Concat_byte_byte.f k (⟨(some ⟨q19.2.next, 0, none⟩), 4, 4⟩ : Sl) (newR q19.2 30 1 [(Value.slice q13.1.a q13.1.n q13.1.c), (Value.slice q15.1.a q15.1.n q15.1.c), (Value.slice q17.1.a q17.1.n q17.1.c), (Value.slice q19.1.a q19.1.n q19.1.c)])).bind fun q20 =>
    (asI2 .i64 (cpy 1 (Value.slice (some ⟨g11.2.next, 0, none⟩) 128 128) (Value.slice q20.1.a q20.1.n q20.1.c) q20.2)).bind fun q21 =>
    cond (same1 (newZ g11.2 5 1 [(Value.int .u8 (0 : Int))] 128) q13.2 (some (Value.pointer (some ⟨h.next, 1, none⟩))) && (same1 (newZ g11.2 5 1 [(Value.int .u8 (0 : Int))] 128) q13.2 (some (Value.pointer (some ⟨h.next, 2, none⟩))) && (same1 q13.2 q15.2 (some (Value.pointer (some ⟨h.next, 2, none⟩))) && (same1 (newZ g11.2 5 1 [(Value.int .u8 (0 : Int))] 128) q13.2 (some (Value.pointer (some ⟨h.next, 3, none⟩))) && (same1 q13.2 q15.2 (some (Value.pointer (some ⟨h.next, 3, none⟩))) && (same1 q15.2 q17.2 (some (Value.pointer (some ⟨h.next, 3, none⟩))) && (true))))))) (some (((⟨(some ⟨g11.2.next, 0, none⟩), 128, 128⟩ : Sl), (0 : Int)), q21.2)) none)
noncomputable def meta_LayRoot.T (k : Nat) : Tbl := tblOf [⟨73, anyArgs, wr [(.int .i64), (.int .i64), (.int .i64)] [.bool] (fun a h => meta_within.f k (a.1) (a.2.1) (a.2.2) h)⟩,
  ⟨75, anyArgs, wr [(.int .i64), (.int .i64)] [.sl] (fun a h => meta_bytes.f k (a.1) (a.2) h)⟩,
  ⟨74, anyArgs, wr [.sl] [.sl] (fun a h => slices_Concat_byte_byte.f k a h)⟩]
noncomputable def meta_LayRoot.an (k : Nat) (p : Nat) : Option Ann := none
noncomputable def meta_LayRoot.body : Code := (Try.f33.body).getD .skip
set_option maxRecDepth 100000 in
theorem meta_LayRoot.TS {C : FuncId → Bool} {X : CallF} (hX : XOk C X) (k : Nat) : TblS Try.prog C X (meta_LayRoot.T k) := by
  refine tblOf_sound ?_
  intro e he
  rcases List.mem_cons.1 he with rfl | he
  · exact wr_told (meta_within.told hX k)
  rcases List.mem_cons.1 he with rfl | he
  · exact wr_told (meta_bytes.told hX k)
  rcases List.mem_cons.1 he with rfl | he
  · exact wr_told (slices_Concat_byte_byte.told hX k)
  exact absurd he List.not_mem_nil
set_option maxRecDepth 100000 in
theorem meta_LayRoot.eq (k : Nat) (a : RT [(.st [(.int .i64), (.int .i64), (.int .i64), (.int .i64)])]) (h : H) : (fun a h => meta_LayRoot.f k a h) a h = kfun Try.prog (meta_LayRoot.T k) (meta_LayRoot.an k) (RT [.sl, (.int .i64)] × H) Try.f33 (encL [(.st [(.int .i64), (.int .i64), (.int .i64), (.int .i64)])] a) h (fun vs h' => (decL [.sl, (.int .i64)] vs).bind fun x => some (x, h')) := by kernel_rfl
set_option maxRecDepth 100000 in
theorem meta_LayRoot.told {C : FuncId → Bool} {X : CallF} (hX : XOk C X) (k : Nat) : Den.Told Try.prog C X 33 [(.st [(.int .i64), (.int .i64), (.int .i64), (.int .i64)])] [.sl, (.int .i64)] (fun a h => meta_LayRoot.f k a h) :=
  told_of fun a h q e => fn_of (c := meta_LayRoot.body) (meta_LayRoot.TS hX k) Try.func33 (by kernel_rfl) (hX.no 33 _ h (by decide))
    (by
      have e : need (meta_LayRoot.an k) meta_LayRoot.body 1 = [] := by kernel_rfl
      rw [e]; intro q hq; cases hq)
    ((meta_LayRoot.eq k a h).symm.trans e)
/-! ### corbel/corbelref7.Big -/
noncomputable def corbelref7_Big.l0 (k : Nat) (n : Nat) : Int → Sl → Int → H → Option ((Sl) × H) :=
  Nat.rec (motive := fun _ => Int → Sl → Int → H → Option ((Sl) × H)) (fun _ _ _ _ => none) (fun _ ih x1 x2 x3 h4 => cond (decide (x3 ≥ (0 : Int)))
      ((asI .i64 (binA Try.prog .shr 3 (Value.int .i64 x1) (Value.int .u64 (wrapA .u64 (wrapA .i64 ((8 : Int) * x3)))))).bind fun n5 =>
    (asS2 (apv 5 1 1 (Value.slice x2.a x2.n x2.c) (Value.slice (some ⟨h4.next, 0, none⟩) 1 1) (newR h4 5 1 [(Value.int .u8 (wrapA .u8 n5))]))).bind fun q6 =>
    ih x1 q6.1 (wrapA .i64 (x3 - (1 : Int))) q6.2)
      (some (x2, h4))) n
theorem corbelref7_Big.l0_zero (k : Nat) (x1 : Int) (x2 : Sl) (x3 : Int) (h4 : H) : corbelref7_Big.l0 k 0 x1 x2 x3 h4 = none := rfl
theorem corbelref7_Big.l0_succ (k n : Nat) (x1 : Int) (x2 : Sl) (x3 : Int) (h4 : H) : corbelref7_Big.l0 k (n + 1) x1 x2 x3 h4 = (cond (decide (x3 ≥ (0 : Int)))
      ((asI .i64 (binA Try.prog .shr 3 (Value.int .i64 x1) (Value.int .u64 (wrapA .u64 (wrapA .i64 ((8 : Int) * x3)))))).bind fun n5 =>
    (asS2 (apv 5 1 1 (Value.slice x2.a x2.n x2.c) (Value.slice (some ⟨h4.next, 0, none⟩) 1 1) (newR h4 5 1 [(Value.int .u8 (wrapA .u8 n5))]))).bind fun q6 =>
    corbelref7_Big.l0 k n x1 q6.1 (wrapA .i64 (x3 - (1 : Int))) q6.2)
      (some (x2, h4))) := rfl
noncomputable def corbelref7_Big.f (k : Nat) (a0 : Int) (a1 : Int) (h : H) : Option ((Sl) × H) :=
  (corbelref7_Big.l0 k k a0 (⟨none, 0, 0⟩ : Sl) (wrapA .i64 (a1 - (1 : Int))) h).bind fun w7 =>
    some (w7.1, w7.2)
noncomputable def corbelref7_Big.T (k : Nat) : Tbl := tblOf []
noncomputable def corbelref7_Big.an (k : Nat) (p : Nat) : Option Ann := cond (Nat.beq p 58) (some (.pass [] (lrun [(0, (.int .i64)), (5, .sl), (6, (.int .i64))] none [(5, .sl)] 0 (fun a h => corbelref7_Big.l0 k k (a.1) (a.2.1) (a.2.2) h))))
  (none)
noncomputable def corbelref7_Big.body : Code := (Try.f76.body).getD .skip
noncomputable def corbelref7_Big.c58 : Code := cat corbelref7_Big.body [1, 1, 0, 1, 0, 0]
set_option maxRecDepth 100000 in
theorem corbelref7_Big.TS {C : FuncId → Bool} {X : CallF} (hX : XOk C X) (k : Nat) : TblS Try.prog C X (corbelref7_Big.T k) := by
  refine tblOf_sound ?_
  intro e he
  exact absurd he List.not_mem_nil
set_option maxRecDepth 100000 in
theorem corbelref7_Big.l0_pass {C : FuncId → Bool} {X : CallF} (hX : XOk C X) (k n : Nat) : PassS Try.prog C X 23 (.loop corbelref7_Big.c58) (lrun [(0, (.int .i64)), (5, .sl), (6, (.int .i64))] none [(5, .sl)] 0 (fun a h => corbelref7_Big.l0 k n (a.1) (a.2.1) (a.2.2) h)) :=
  loop_pass (ins := [(0, (.int .i64)), (5, .sl), (6, (.int .i64))]) (rets := none) (outs := [(5, .sl)]) (id := 0) (tbl := corbelref7_Big.T k) (an := corbelref7_Big.an k) (pb := 116) (corbelref7_Big.TS hX k) (fun n => (fun a h => corbelref7_Big.l0 k n (a.1) (a.2.1) (a.2.2) h)) (fun a h => rfl) (fun n a h => by kernel_rfl)
    (by
      have e : need (corbelref7_Big.an k) corbelref7_Big.c58 116 = [] := by kernel_rfl
      rw [e]; intro q hq; cases hq) n
set_option maxRecDepth 100000 in
theorem corbelref7_Big.eq (k : Nat) (a : RT [(.int .i64), (.int .i64)]) (h : H) : (fun a h => corbelref7_Big.f k (a.1) (a.2) h) a h = kfun Try.prog (corbelref7_Big.T k) (corbelref7_Big.an k) (RT [.sl] × H) Try.f76 (encL [(.int .i64), (.int .i64)] a) h (fun vs h' => (decL [.sl] vs).bind fun x => some (x, h')) := by kernel_rfl
set_option maxRecDepth 100000 in
theorem corbelref7_Big.told {C : FuncId → Bool} {X : CallF} (hX : XOk C X) (k : Nat) : Den.Told Try.prog C X 76 [(.int .i64), (.int .i64)] [.sl] (fun a h => corbelref7_Big.f k (a.1) (a.2) h) :=
  told_of fun a h q e => fn_of (c := corbelref7_Big.body) (corbelref7_Big.TS hX k) Try.func76 (by kernel_rfl) (hX.no 76 _ h (by decide))
    (by
      have e : need (corbelref7_Big.an k) corbelref7_Big.body 1 = [(Code.loop corbelref7_Big.c58, lrun [(0, (.int .i64)), (5, .sl), (6, (.int .i64))] none [(5, .sl)] 0 (fun a h => corbelref7_Big.l0 k k (a.1) (a.2.1) (a.2.2) h))] := by kernel_rfl
      rw [e]; intro q hq
      rcases List.mem_cons.1 hq with rfl | hq
      · exact corbelref7_Big.l0_pass hX k k
      cases hq)
    ((corbelref7_Big.eq k a h).symm.trans e)
/-! ### corbel/corbelref16.LayRoot -/
noncomputable def corbelref16_LayRoot.f (k : Nat) (a0 : (Int × Int × Int × Int)) (h : H) : Option ((Sl × Bool) × H) :=
  (asI .i64 (ldc (newR h 46 4 [(Value.int .i64 a0.1), (Value.int .i64 a0.2.1), (Value.int .i64 a0.2.2.1), (Value.int .i64 a0.2.2.2)]) (some ⟨h.next, 0, none⟩))).bind fun n1 =>
    (cond (decide (n1 < (1 : Int))) (some (true, (newR h 46 4 [(Value.int .i64 a0.1), (Value.int .i64 a0.2.1), (Value.int .i64 a0.2.2.1), (Value.int .i64 a0.2.2.2)])))
      ((asI .i64 (ldc (newR h 46 4 [(Value.int .i64 a0.1), (Value.int .i64 a0.2.1), (Value.int .i64 a0.2.2.1), (Value.int .i64 a0.2.2.2)]) (some ⟨h.next, 0, none⟩))).bind fun n2 =>
    some (decide (n2 > (1099511627776 : Int)), (newR h 46 4 [(Value.int .i64 a0.1), (Value.int .i64 a0.2.1), (Value.int .i64 a0.2.2.1), (Value.int .i64 a0.2.2.2)])))).bind fun g3 =>
    (cond g3.1 (some (true, g3.2))
      ((asI .i64 (ldc g3.2 (some ⟨h.next, 1, none⟩))).bind fun n4 =>
    some (decide (n4 < (0 : Int)), g3.2))).bind fun g5 =>
    (cond g5.1 (some (true, g5.2))
      ((asI .i64 (ldc g5.2 (some ⟨h.next, 1, none⟩))).bind fun n6 =>
    some (decide (n6 > (1 : Int)), g5.2))).bind fun g7 =>
    (cond g7.1 (some (true, g7.2))
      ((asI .i64 (ldc g7.2 (some ⟨h.next, 2, none⟩))).bind fun n8 =>
    some (decide (n8 < (1 : Int)), g7.2))).bind fun g9 =>
    (cond g9.1 (some (true, g9.2))
      ((asI .i64 (ldc g9.2 (some ⟨h.next, 2, none⟩))).bind fun n10 =>
    some (decide (n10 > (1024 : Int)), g9.2))).bind fun g11 =>
    (cond g11.1 (some (true, g11.2))
      ((asI .i64 (ldc g11.2 (some ⟨h.next, 3, none⟩))).bind fun n12 =>
    some (decide (n12 < (0 : Int)), g11.2))).bind fun g13 =>
    (cond g13.1 (some (true, g13.2))
      ((asI .i64 (ldc g13.2 (some ⟨h.next, 3, none⟩))).bind fun n14 =>
    some (decide (n14 ≥ (4294967291 : Int)), g13.2))).bind fun g15 =>
    cond g15.1
      (some (((⟨none, 0, 0⟩ : Sl), false), g15.2))
      ((asI .i64 (ldc g15.2 (some ⟨h.next, 0, none⟩))).bind fun n16 =>
    (corbelref7_Big.f k n16 (6 : Int) g15.2).bind fun q17 =>
    (asI .i64 (ldc q17.2 (some ⟨h.next, 1, none⟩))).bind fun n18 =>
    (asS2 (apv 5 1 1 (Value.slice q17.1.a q17.1.n q17.1.c) (Value.slice (some ⟨q17.2.next, 0, none⟩) 1 1) (newR q17.2 5 1 [(Value.int .u8 (wrapA .u8 n18))]))).bind fun q19 =>
    cond (same1 g15.2 q17.2 (some (Value.pointer (some ⟨h.next, 1, none⟩))) && (true)) ((asI .i64 (ldc q19.2 (some ⟨h.next, 2, none⟩))).bind fun n20 =>
    (corbelref7_Big.f k n20 (2 : Int) q19.2).bind fun q21 =>
    (asS2 (apv 5 1 1 (Value.slice q19.1.a q19.1.n q19.1.c) (Value.slice q21.1.a q21.1.n q21.1.c) q21.2)).bind fun q22 =>
    (asI .i64 (ldc q22.2 (some ⟨h.next, 3, none⟩))).bind fun n23 =>
    (corbelref7_Big.f k n23 (4 : Int) q22.2).bind fun q24 =>
    (asS2 (apv 5 1 1 (Value.slice q22.1.a q22.1.n q22.1.c) (Value.slice q24.1.a q24.1.n q24.1.c) q24.2)).bind fun q25 =>
    (asS2 (apz 5 1 1 [(Value.int .u8 (0 : Int))] (Value.slice q25.1.a q25.1.n q25.1.c) (wrapA .i64 ((128 : Int) - (Int.ofNat q25.1.n))) q25.2)).bind fun q26 =>
    some ((q26.1, true), q26.2)) none)
noncomputable def corbelref16_LayRoot.T (k : Nat) : Tbl := tblOf [⟨76, anyArgs, wr [(.int .i64), (.int .i64)] [.sl] (fun a h => corbelref7_Big.f k (a.1) (a.2) h)⟩]
noncomputable def corbelref16_LayRoot.an (k : Nat) (p : Nat) : Option Ann := none
noncomputable def corbelref16_LayRoot.body : Code := (Try.f34.body).getD .skip
set_option maxRecDepth 100000 in
theorem corbelref16_LayRoot.TS {C : FuncId → Bool} {X : CallF} (hX : XOk C X) (k : Nat) : TblS Try.prog C X (corbelref16_LayRoot.T k) := by
  refine tblOf_sound ?_
  intro e he
  rcases List.mem_cons.1 he with rfl | he
  · exact wr_told (corbelref7_Big.told hX k)
  exact absurd he List.not_mem_nil
set_option maxRecDepth 100000 in
theorem corbelref16_LayRoot.eq (k : Nat) (a : RT [(.st [(.int .i64), (.int .i64), (.int .i64), (.int .i64)])]) (h : H) : (fun a h => corbelref16_LayRoot.f k a h) a h = kfun Try.prog (corbelref16_LayRoot.T k) (corbelref16_LayRoot.an k) (RT [.sl, .bool] × H) Try.f34 (encL [(.st [(.int .i64), (.int .i64), (.int .i64), (.int .i64)])] a) h (fun vs h' => (decL [.sl, .bool] vs).bind fun x => some (x, h')) := by kernel_rfl
set_option maxRecDepth 100000 in
theorem corbelref16_LayRoot.told {C : FuncId → Bool} {X : CallF} (hX : XOk C X) (k : Nat) : Den.Told Try.prog C X 34 [(.st [(.int .i64), (.int .i64), (.int .i64), (.int .i64)])] [.sl, .bool] (fun a h => corbelref16_LayRoot.f k a h) :=
  told_of fun a h q e => fn_of (c := corbelref16_LayRoot.body) (corbelref16_LayRoot.TS hX k) Try.func34 (by kernel_rfl) (hX.no 34 _ h (by decide))
    (by
      have e : need (corbelref16_LayRoot.an k) corbelref16_LayRoot.body 1 = [] := by kernel_rfl
      rw [e]; intro q hq; cases hq)
    ((corbelref16_LayRoot.eq k a h).symm.trans e)
/-! ### corbel/corbelhand.Few -/
noncomputable def corbelhand_Few.f (k : Nat) (a0 : Sl) (a1 : Int) (h : H) : Option ((Sl) × H) :=
  (asS (subs 1 (Value.slice a0.a a0.n a0.c) none (some (cond (decide (a1 < (Int.ofNat a0.n))) a1 (Int.ofNat a0.n))))).bind fun s1 =>
    (asS2 (apv 5 1 1 (Value.slice (some ⟨h.next, 0, none⟩) 0 0) (Value.slice s1.a s1.n s1.c) (newR h 5 1 []))).bind fun q2 =>
    some (q2.1, q2.2)
noncomputable def corbelhand_Few.T (k : Nat) : Tbl := tblOf []
noncomputable def corbelhand_Few.an (k : Nat) (p : Nat) : Option Ann := none
noncomputable def corbelhand_Few.body : Code := (Try.f35.body).getD .skip
set_option maxRecDepth 100000 in
theorem corbelhand_Few.TS {C : FuncId → Bool} {X : CallF} (hX : XOk C X) (k : Nat) : TblS Try.prog C X (corbelhand_Few.T k) := by
  refine tblOf_sound ?_
  intro e he
  exact absurd he List.not_mem_nil
set_option maxRecDepth 100000 in
theorem corbelhand_Few.eq (k : Nat) (a : RT [.sl, (.int .i64)]) (h : H) : (fun a h => corbelhand_Few.f k (a.1) (a.2) h) a h = kfun Try.prog (corbelhand_Few.T k) (corbelhand_Few.an k) (RT [.sl] × H) Try.f35 (encL [.sl, (.int .i64)] a) h (fun vs h' => (decL [.sl] vs).bind fun x => some (x, h')) := by kernel_rfl
set_option maxRecDepth 100000 in
theorem corbelhand_Few.told {C : FuncId → Bool} {X : CallF} (hX : XOk C X) (k : Nat) : Den.Told Try.prog C X 35 [.sl, (.int .i64)] [.sl] (fun a h => corbelhand_Few.f k (a.1) (a.2) h) :=
  told_of fun a h q e => fn_of (c := corbelhand_Few.body) (corbelhand_Few.TS hX k) Try.func35 (by kernel_rfl) (hX.no 35 _ h (by decide))
    (by
      have e : need (corbelhand_Few.an k) corbelhand_Few.body 1 = [] := by kernel_rfl
      rw [e]; intro q hq; cases hq)
    ((corbelhand_Few.eq k a h).symm.trans e)
/-! ### (*corbel/meta.reader).take -/
noncomputable def meta_reader_take.f (k : Nat) (a0 : Option Addr) (a1 : Int) (h : H) : Option ((Sl) × H) :=
  (asP (nilA (Value.pointer a0))).bind fun p1 =>
    (asP (fadd 0 p1)).bind fun p2 =>
    (asS (ldc h p2)).bind fun s3 =>
    (asP (nilA (Value.pointer a0))).bind fun p4 =>
    (asP (fadd 0 p4)).bind fun p5 =>
    (asS (ldc h p5)).bind fun s6 =>
    (asS (subs 1 (Value.slice s6.a s6.n s6.c) none (some (cond (decide ((Int.ofNat s3.n) < a1)) (Int.ofNat s3.n) a1)))).bind fun s7 =>
    (asP (nilA (Value.pointer a0))).bind fun p8 =>
    (asP (fadd 0 p8)).bind fun p9 =>
    (asS (ldc h p9)).bind fun s10 =>
    (asS (subs 1 (Value.slice s10.a s10.n s10.c) (some (cond (decide ((Int.ofNat s3.n) < a1)) (Int.ofNat s3.n) a1)) none)).bind fun s11 =>
    (asP (nilA (Value.pointer a0))).bind fun p12 =>
    (asP (fadd 0 p12)).bind fun p13 =>
    (stv 1 h p13 [(Value.slice s11.a s11.n s11.c)]).bind fun q14 =>
    some (s7, q14.2)
noncomputable def meta_reader_take.T (k : Nat) : Tbl := tblOf []
noncomputable def meta_reader_take.an (k : Nat) (p : Nat) : Option Ann := none
noncomputable def meta_reader_take.body : Code := (Try.f106.body).getD .skip
set_option maxRecDepth 100000 in
theorem meta_reader_take.TS {C : FuncId → Bool} {X : CallF} (hX : XOk C X) (k : Nat) : TblS Try.prog C X (meta_reader_take.T k) := by
  refine tblOf_sound ?_
  intro e he
  exact absurd he List.not_mem_nil
set_option maxRecDepth 100000 in
theorem meta_reader_take.eq (k : Nat) (a : RT [.ptr, (.int .i64)]) (h : H) : (fun a h => meta_reader_take.f k (a.1) (a.2) h) a h = kfun Try.prog (meta_reader_take.T k) (meta_reader_take.an k) (RT [.sl] × H) Try.f106 (encL [.ptr, (.int .i64)] a) h (fun vs h' => (decL [.sl] vs).bind fun x => some (x, h')) := by kernel_rfl
set_option maxRecDepth 100000 in
theorem meta_reader_take.told {C : FuncId → Bool} {X : CallF} (hX : XOk C X) (k : Nat) : Den.Told Try.prog C X 106 [.ptr, (.int .i64)] [.sl] (fun a h => meta_reader_take.f k (a.1) (a.2) h) :=
  told_of fun a h q e => fn_of (c := meta_reader_take.body) (meta_reader_take.TS hX k) Try.func106 (by kernel_rfl) (hX.no 106 _ h (by decide))
    (by
      have e : need (meta_reader_take.an k) meta_reader_take.body 1 = [] := by kernel_rfl
      rw [e]; intro q hq; cases hq)
    ((meta_reader_take.eq k a h).symm.trans e)
/-! ### (*corbel/meta.reader).number -/
noncomputable def meta_reader_number.l0 (k : Nat) (n : Nat) : Sl → Int → Int → Int → H → Option ((Int) × H) :=
  Nat.rec (motive := fun _ => Sl → Int → Int → Int → H → Option ((Int) × H)) (fun _ _ _ _ _ => none) (fun _ ih x2 x3 x4 x5 h6 => cond (decide (x5 < x3))
      ((asP (ixs 1 x2.a x2.n x5)).bind fun p7 =>
    (asI .u8 (ldc h6 p7)).bind fun n8 =>
    (asI .i64 (intA .or .i64 (wrapA .i64 (x4 * 2 ^ 8)) (wrapA .i64 n8))).bind fun n9 =>
    ih x2 x3 n9 (wrapA .i64 (x5 + (1 : Int))) h6)
      (some (x4, h6))) n
theorem meta_reader_number.l0_zero (k : Nat) (x2 : Sl) (x3 : Int) (x4 : Int) (x5 : Int) (h6 : H) : meta_reader_number.l0 k 0 x2 x3 x4 x5 h6 = none := rfl
theorem meta_reader_number.l0_succ (k n : Nat) (x2 : Sl) (x3 : Int) (x4 : Int) (x5 : Int) (h6 : H) : meta_reader_number.l0 k (n + 1) x2 x3 x4 x5 h6 = (cond (decide (x5 < x3))
      ((asP (ixs 1 x2.a x2.n x5)).bind fun p7 =>
    (asI .u8 (ldc h6 p7)).bind fun n8 =>
    (asI .i64 (intA .or .i64 (wrapA .i64 (x4 * 2 ^ 8)) (wrapA .i64 n8))).bind fun n9 =>
    meta_reader_number.l0 k n x2 x3 n9 (wrapA .i64 (x5 + (1 : Int))) h6)
      (some (x4, h6))) := rfl
noncomputable def meta_reader_number.f (k : Nat) (a0 : Option Addr) (a1 : Int) (h : H) : Option ((Int) × H) :=
  (meta_reader_take.f k a0 a1 h).bind fun q1 =>
    (meta_reader_number.l0 k k q1.1 (Int.ofNat q1.1.n) (0 : Int) (0 : Int) q1.2).bind fun w10 =>
    some (w10.1, w10.2)
noncomputable def meta_reader_number.T (k : Nat) : Tbl := tblOf [⟨106, anyArgs, wr [.ptr, (.int .i64)] [.sl] (fun a h => meta_reader_take.f k (a.1) (a.2) h)⟩]
noncomputable def meta_reader_number.an (k : Nat) (p : Nat) : Option Ann := cond (Nat.beq p 58) (some (.pass [] (lrun [(10, .sl), (11, (.int .i64)), (5, (.int .i64)), (12, (.int .i64))] none [(5, (.int .i64))] 0 (fun a h => meta_reader_number.l0 k k (a.1) (a.2.1) (a.2.2.1) (a.2.2.2) h))))
  (none)
noncomputable def meta_reader_number.body : Code := (Try.f77.body).getD .skip
noncomputable def meta_reader_number.c58 : Code := cat meta_reader_number.body [1, 1, 0, 1, 0, 0]
set_option maxRecDepth 100000 in
theorem meta_reader_number.TS {C : FuncId → Bool} {X : CallF} (hX : XOk C X) (k : Nat) : TblS Try.prog C X (meta_reader_number.T k) := by
  refine tblOf_sound ?_
  intro e he
  rcases List.mem_cons.1 he with rfl | he
  · exact wr_told (meta_reader_take.told hX k)
  exact absurd he List.not_mem_nil
set_option maxRecDepth 100000 in
theorem meta_reader_number.l0_pass {C : FuncId → Bool} {X : CallF} (hX : XOk C X) (k n : Nat) : PassS Try.prog C X 23 (.loop meta_reader_number.c58) (lrun [(10, .sl), (11, (.int .i64)), (5, (.int .i64)), (12, (.int .i64))] none [(5, (.int .i64))] 0 (fun a h => meta_reader_number.l0 k n (a.1) (a.2.1) (a.2.2.1) (a.2.2.2) h)) :=
  loop_pass (ins := [(10, .sl), (11, (.int .i64)), (5, (.int .i64)), (12, (.int .i64))]) (rets := none) (outs := [(5, (.int .i64))]) (id := 0) (tbl := meta_reader_number.T k) (an := meta_reader_number.an k) (pb := 116) (meta_reader_number.TS hX k) (fun n => (fun a h => meta_reader_number.l0 k n (a.1) (a.2.1) (a.2.2.1) (a.2.2.2) h)) (fun a h => rfl) (fun n a h => by kernel_rfl)
    (by
      have e : need (meta_reader_number.an k) meta_reader_number.c58 116 = [] := by kernel_rfl
      rw [e]; intro q hq; cases hq) n
set_option maxRecDepth 100000 in
theorem meta_reader_number.eq (k : Nat) (a : RT [.ptr, (.int .i64)]) (h : H) : (fun a h => meta_reader_number.f k (a.1) (a.2) h) a h = kfun Try.prog (meta_reader_number.T k) (meta_reader_number.an k) (RT [(.int .i64)] × H) Try.f77 (encL [.ptr, (.int .i64)] a) h (fun vs h' => (decL [(.int .i64)] vs).bind fun x => some (x, h')) := by kernel_rfl
set_option maxRecDepth 100000 in
theorem meta_reader_number.told {C : FuncId → Bool} {X : CallF} (hX : XOk C X) (k : Nat) : Den.Told Try.prog C X 77 [.ptr, (.int .i64)] [(.int .i64)] (fun a h => meta_reader_number.f k (a.1) (a.2) h) :=
  told_of fun a h q e => fn_of (c := meta_reader_number.body) (meta_reader_number.TS hX k) Try.func77 (by kernel_rfl) (hX.no 77 _ h (by decide))
    (by
      have e : need (meta_reader_number.an k) meta_reader_number.body 1 = [(Code.loop meta_reader_number.c58, lrun [(10, .sl), (11, (.int .i64)), (5, (.int .i64)), (12, (.int .i64))] none [(5, (.int .i64))] 0 (fun a h => meta_reader_number.l0 k k (a.1) (a.2.1) (a.2.2.1) (a.2.2.2) h))] := by kernel_rfl
      rw [e]; intro q hq
      rcases List.mem_cons.1 hq with rfl | hq
      · exact meta_reader_number.l0_pass hX k k
      cases hq)
    ((meta_reader_number.eq k a h).symm.trans e)
/-! ### slices.Equal[[]byte,byte] -/
noncomputable def slices_Equal_byte_byte.l0 (k : Nat) (n : Nat) : Sl → Sl → Int → Int → H → Option (((Bool) ⊕ (Unit)) × H) :=
  Nat.rec (motive := fun _ => Sl → Sl → Int → Int → H → Option (((Bool) ⊕ (Unit)) × H)) (fun _ _ _ _ _ => none) (fun _ ih x1 x2 x3 x4 h5 => cond (decide (x4 < x3))
      ((asP (ixs 1 x1.a x1.n x4)).bind fun p6 =>
    (asI .u8 (ldc h5 p6)).bind fun n7 =>
    (asP (ixs 1 x2.a x2.n x4)).bind fun p8 =>
    (asI .u8 (ldc h5 p8)).bind fun n9 =>
    cond (n7 != n9)
      (some (Sum.inl false, h5))
      (ih x1 x2 x3 (wrapA .i64 (x4 + (1 : Int))) h5))
      (some (Sum.inr (), h5))) n
theorem slices_Equal_byte_byte.l0_zero (k : Nat) (x1 : Sl) (x2 : Sl) (x3 : Int) (x4 : Int) (h5 : H) : slices_Equal_byte_byte.l0 k 0 x1 x2 x3 x4 h5 = none := rfl
theorem slices_Equal_byte_byte.l0_succ (k n : Nat) (x1 : Sl) (x2 : Sl) (x3 : Int) (x4 : Int) (h5 : H) : slices_Equal_byte_byte.l0 k (n + 1) x1 x2 x3 x4 h5 = (cond (decide (x4 < x3))
      ((asP (ixs 1 x1.a x1.n x4)).bind fun p6 =>
    (asI .u8 (ldc h5 p6)).bind fun n7 =>
    (asP (ixs 1 x2.a x2.n x4)).bind fun p8 =>
    (asI .u8 (ldc h5 p8)).bind fun n9 =>
    cond (n7 != n9)
      (some (Sum.inl false, h5))
      (slices_Equal_byte_byte.l0 k n x1 x2 x3 (wrapA .i64 (x4 + (1 : Int))) h5))
      (some (Sum.inr (), h5))) := rfl
noncomputable def slices_Equal_byte_byte.f (k : Nat) (a0 : Sl) (a1 : Sl) (h : H) : Option ((Bool) × H) :=
  cond ((Int.ofNat a0.n) != (Int.ofNat a1.n))
      (some (false, h))
      ((slices_Equal_byte_byte.l0 k k a0 a1 (Int.ofNat a0.n) (0 : Int) h).bind fun w10 =>
    match w10.1 with
    | .inl r11 => some (r11, w10.2)
    | .inr o12 => some (true, w10.2))
noncomputable def slices_Equal_byte_byte.T (k : Nat) : Tbl := tblOf []
noncomputable def slices_Equal_byte_byte.an (k : Nat) (p : Nat) : Option Ann := cond (Nat.beq p 58) (some (.pass [] (lrun [(0, .sl), (1, .sl), (12, (.int .i64)), (13, (.int .i64))] (some [(4, .bool)]) [] 0 (fun a h => slices_Equal_byte_byte.l0 k k (a.1) (a.2.1) (a.2.2.1) (a.2.2.2) h))))
  (none)
noncomputable def slices_Equal_byte_byte.body : Code := (Try.f78.body).getD .skip
noncomputable def slices_Equal_byte_byte.c58 : Code := cat slices_Equal_byte_byte.body [1, 1, 0, 1, 0, 0]
set_option maxRecDepth 100000 in
theorem slices_Equal_byte_byte.TS {C : FuncId → Bool} {X : CallF} (hX : XOk C X) (k : Nat) : TblS Try.prog C X (slices_Equal_byte_byte.T k) := by
  refine tblOf_sound ?_
  intro e he
  exact absurd he List.not_mem_nil
set_option maxRecDepth 100000 in
theorem slices_Equal_byte_byte.l0_pass {C : FuncId → Bool} {X : CallF} (hX : XOk C X) (k n : Nat) : PassS Try.prog C X 26 (.loop slices_Equal_byte_byte.c58) (lrun [(0, .sl), (1, .sl), (12, (.int .i64)), (13, (.int .i64))] (some [(4, .bool)]) [] 0 (fun a h => slices_Equal_byte_byte.l0 k n (a.1) (a.2.1) (a.2.2.1) (a.2.2.2) h)) :=
  loop_pass (ins := [(0, .sl), (1, .sl), (12, (.int .i64)), (13, (.int .i64))]) (rets := (some [(4, .bool)])) (outs := []) (id := 0) (tbl := slices_Equal_byte_byte.T k) (an := slices_Equal_byte_byte.an k) (pb := 116) (slices_Equal_byte_byte.TS hX k) (fun n => (fun a h => slices_Equal_byte_byte.l0 k n (a.1) (a.2.1) (a.2.2.1) (a.2.2.2) h)) (fun a h => rfl) (fun n a h => by kernel_rfl)
    (by
      have e : need (slices_Equal_byte_byte.an k) slices_Equal_byte_byte.c58 116 = [] := by kernel_rfl
      rw [e]; intro q hq; cases hq) n
set_option maxRecDepth 100000 in
theorem slices_Equal_byte_byte.eq (k : Nat) (a : RT [.sl, .sl]) (h : H) : (fun a h => slices_Equal_byte_byte.f k (a.1) (a.2) h) a h = kfun Try.prog (slices_Equal_byte_byte.T k) (slices_Equal_byte_byte.an k) (RT [.bool] × H) Try.f78 (encL [.sl, .sl] a) h (fun vs h' => (decL [.bool] vs).bind fun x => some (x, h')) := by kernel_rfl
set_option maxRecDepth 100000 in
theorem slices_Equal_byte_byte.told {C : FuncId → Bool} {X : CallF} (hX : XOk C X) (k : Nat) : Den.Told Try.prog C X 78 [.sl, .sl] [.bool] (fun a h => slices_Equal_byte_byte.f k (a.1) (a.2) h) :=
  told_of fun a h q e => fn_of (c := slices_Equal_byte_byte.body) (slices_Equal_byte_byte.TS hX k) Try.func78 (by kernel_rfl) (hX.no 78 _ h (by decide))
    (by
      have e : need (slices_Equal_byte_byte.an k) slices_Equal_byte_byte.body 1 = [(Code.loop slices_Equal_byte_byte.c58, lrun [(0, .sl), (1, .sl), (12, (.int .i64)), (13, (.int .i64))] (some [(4, .bool)]) [] 0 (fun a h => slices_Equal_byte_byte.l0 k k (a.1) (a.2.1) (a.2.2.1) (a.2.2.2) h))] := by kernel_rfl
      rw [e]; intro q hq
      rcases List.mem_cons.1 hq with rfl | hq
      · exact slices_Equal_byte_byte.l0_pass hX k k
      cases hq)
    ((slices_Equal_byte_byte.eq k a h).symm.trans e)
/-! ### corbel/meta.ReadRoot -/
noncomputable def meta_ReadRoot.f (k : Nat) (a0 : Sl) (h : H) : Option (((Int × Int × Int × Int) × Int) × H) :=
  (meta_reader_number.f k (some ⟨(newR h 46 4 [(Value.int .i64 (0 : Int)), (Value.int .i64 (0 : Int)), (Value.int .i64 (0 : Int)), (Value.int .i64 (0 : Int))]).next, 0, none⟩) (6 : Int) (newR (newR h 46 4 [(Value.int .i64 (0 : Int)), (Value.int .i64 (0 : Int)), (Value.int .i64 (0 : Int)), (Value.int .i64 (0 : Int))]) 105 1 [(Value.slice a0.a a0.n a0.c)])).bind fun q1 =>
    (meta_reader_number.f k (some ⟨(newR h 46 4 [(Value.int .i64 (0 : Int)), (Value.int .i64 (0 : Int)), (Value.int .i64 (0 : Int)), (Value.int .i64 (0 : Int))]).next, 0, none⟩) (1 : Int) q1.2).bind fun q2 =>
    (meta_reader_number.f k (some ⟨(newR h 46 4 [(Value.int .i64 (0 : Int)), (Value.int .i64 (0 : Int)), (Value.int .i64 (0 : Int)), (Value.int .i64 (0 : Int))]).next, 0, none⟩) (2 : Int) q2.2).bind fun q3 =>
    (meta_reader_number.f k (some ⟨(newR h 46 4 [(Value.int .i64 (0 : Int)), (Value.int .i64 (0 : Int)), (Value.int .i64 (0 : Int)), (Value.int .i64 (0 : Int))]).next, 0, none⟩) (4 : Int) q3.2).bind fun q4 =>
    (stv 4 (newR q4.2 46 4 [(Value.int .i64 (0 : Int)), (Value.int .i64 (0 : Int)), (Value.int .i64 (0 : Int)), (Value.int .i64 (0 : Int))]) (some ⟨q4.2.next, 0, none⟩) [(Value.int .i64 q1.1), (Value.int .i64 q2.1), (Value.int .i64 q3.1), (Value.int .i64 q4.1)]).bind fun q5 =>
    (asSt [(.int .i64), (.int .i64), (.int .i64), (.int .i64)] (lda 4 q5.2 (some ⟨q4.2.next, 0, none⟩))).bind fun s6 =>
    (meta_LayRoot.f k (s6.1, s6.2.1, s6.2.2.1, s6.2.2.2) q5.2).bind fun q7 =>
    (cond (q7.1.2 != (0 : Int)) (some (true, q7.2))
      ((slices_Equal_byte_byte.f k q7.1.1 a0 q7.2).bind fun q8 =>
    some (!q8.1, q8.2))).bind fun g9 =>
    cond g9.1
      ((stv 4 g9.2 (some ⟨h.next, 0, none⟩) [(Value.int .i64 (0 : Int)), (Value.int .i64 (0 : Int)), (Value.int .i64 (0 : Int)), (Value.int .i64 (0 : Int))]).bind fun q10 =>
    (asSt [(.int .i64), (.int .i64), (.int .i64), (.int .i64)] (lda 4 q10.2 (some ⟨h.next, 0, none⟩))).bind fun s11 =>
    some (((s11.1, s11.2.1, s11.2.2.1, s11.2.2.2), (2 : Int)), q10.2))
      ((asSt [(.int .i64), (.int .i64), (.int .i64), (.int .i64)] (lda 4 g9.2 (some ⟨q4.2.next, 0, none⟩))).bind fun s12 =>
    (stv 4 g9.2 (some ⟨h.next, 0, none⟩) [(Value.int .i64 s12.1), (Value.int .i64 s12.2.1), (Value.int .i64 s12.2.2.1), (Value.int .i64 s12.2.2.2)]).bind fun q13 =>
    (asSt [(.int .i64), (.int .i64), (.int .i64), (.int .i64)] (lda 4 q13.2 (some ⟨h.next, 0, none⟩))).bind fun s14 =>
    some (((s14.1, s14.2.1, s14.2.2.1, s14.2.2.2), (0 : Int)), q13.2))
noncomputable def meta_ReadRoot.T (k : Nat) : Tbl := tblOf [⟨77, anyArgs, wr [.ptr, (.int .i64)] [(.int .i64)] (fun a h => meta_reader_number.f k (a.1) (a.2) h)⟩,
  ⟨33, anyArgs, wr [(.st [(.int .i64), (.int .i64), (.int .i64), (.int .i64)])] [.sl, (.int .i64)] (fun a h => meta_LayRoot.f k a h)⟩,
  ⟨78, anyArgs, wr [.sl, .sl] [.bool] (fun a h => slices_Equal_byte_byte.f k (a.1) (a.2) h)⟩]
noncomputable def meta_ReadRoot.an (k : Nat) (p : Nat) : Option Ann := none
noncomputable def meta_ReadRoot.body : Code := (Try.f36.body).getD .skip
set_option maxRecDepth 100000 in
theorem meta_ReadRoot.TS {C : FuncId → Bool} {X : CallF} (hX : XOk C X) (k : Nat) : TblS Try.prog C X (meta_ReadRoot.T k) := by
  refine tblOf_sound ?_
  intro e he
  rcases List.mem_cons.1 he with rfl | he
  · exact wr_told (meta_reader_number.told hX k)
  rcases List.mem_cons.1 he with rfl | he
  · exact wr_told (meta_LayRoot.told hX k)
  rcases List.mem_cons.1 he with rfl | he
  · exact wr_told (slices_Equal_byte_byte.told hX k)
  exact absurd he List.not_mem_nil
set_option maxRecDepth 100000 in
theorem meta_ReadRoot.eq (k : Nat) (a : RT [.sl]) (h : H) : (fun a h => meta_ReadRoot.f k a h) a h = kfun Try.prog (meta_ReadRoot.T k) (meta_ReadRoot.an k) (RT [(.st [(.int .i64), (.int .i64), (.int .i64), (.int .i64)]), (.int .i64)] × H) Try.f36 (encL [.sl] a) h (fun vs h' => (decL [(.st [(.int .i64), (.int .i64), (.int .i64), (.int .i64)]), (.int .i64)] vs).bind fun x => some (x, h')) := by kernel_rfl
set_option maxRecDepth 100000 in
theorem meta_ReadRoot.told {C : FuncId → Bool} {X : CallF} (hX : XOk C X) (k : Nat) : Den.Told Try.prog C X 36 [.sl] [(.st [(.int .i64), (.int .i64), (.int .i64), (.int .i64)]), (.int .i64)] (fun a h => meta_ReadRoot.f k a h) :=
  told_of fun a h q e => fn_of (c := meta_ReadRoot.body) (meta_ReadRoot.TS hX k) Try.func36 (by kernel_rfl) (hX.no 36 _ h (by decide))
    (by
      have e : need (meta_ReadRoot.an k) meta_ReadRoot.body 1 = [] := by kernel_rfl
      rw [e]; intro q hq; cases hq)
    ((meta_ReadRoot.eq k a h).symm.trans e)
/-! ### corbel/corbelref7.From -/
noncomputable def corbelref7_From.l0 (k : Nat) (n : Nat) : Sl → Int → Int → H → Option ((Int) × H) :=
  Nat.rec (motive := fun _ => Sl → Int → Int → H → Option ((Int) × H)) (fun _ _ _ _ => none) (fun _ ih x1 x2 x3 h4 => cond (decide (x3 < (Int.ofNat x1.n)))
      ((asP (ixs 1 x1.a x1.n x3)).bind fun p5 =>
    (asI .u8 (ldc h4 p5)).bind fun n6 =>
    (asI .i64 (intA .or .i64 (wrapA .i64 (x2 * 2 ^ 8)) (wrapA .i64 n6))).bind fun n7 =>
    ih x1 n7 (wrapA .i64 (x3 + (1 : Int))) h4)
      (some (x2, h4))) n
theorem corbelref7_From.l0_zero (k : Nat) (x1 : Sl) (x2 : Int) (x3 : Int) (h4 : H) : corbelref7_From.l0 k 0 x1 x2 x3 h4 = none := rfl
theorem corbelref7_From.l0_succ (k n : Nat) (x1 : Sl) (x2 : Int) (x3 : Int) (h4 : H) : corbelref7_From.l0 k (n + 1) x1 x2 x3 h4 = (cond (decide (x3 < (Int.ofNat x1.n)))
      ((asP (ixs 1 x1.a x1.n x3)).bind fun p5 =>
    (asI .u8 (ldc h4 p5)).bind fun n6 =>
    (asI .i64 (intA .or .i64 (wrapA .i64 (x2 * 2 ^ 8)) (wrapA .i64 n6))).bind fun n7 =>
    corbelref7_From.l0 k n x1 n7 (wrapA .i64 (x3 + (1 : Int))) h4)
      (some (x2, h4))) := rfl
noncomputable def corbelref7_From.f (k : Nat) (a0 : Sl) (h : H) : Option ((Int) × H) :=
  (corbelref7_From.l0 k k a0 (0 : Int) (0 : Int) h).bind fun w8 =>
    some (w8.1, w8.2)
noncomputable def corbelref7_From.T (k : Nat) : Tbl := tblOf []
noncomputable def corbelref7_From.an (k : Nat) (p : Nat) : Option Ann := cond (Nat.beq p 58) (some (.pass [] (lrun [(0, .sl), (3, (.int .i64)), (4, (.int .i64))] none [(3, (.int .i64))] 0 (fun a h => corbelref7_From.l0 k k (a.1) (a.2.1) (a.2.2) h))))
  (none)
noncomputable def corbelref7_From.body : Code := (Try.f79.body).getD .skip
noncomputable def corbelref7_From.c58 : Code := cat corbelref7_From.body [1, 1, 0, 1, 0, 0]
set_option maxRecDepth 100000 in
theorem corbelref7_From.TS {C : FuncId → Bool} {X : CallF} (hX : XOk C X) (k : Nat) : TblS Try.prog C X (corbelref7_From.T k) := by
  refine tblOf_sound ?_
  intro e he
  exact absurd he List.not_mem_nil
set_option maxRecDepth 100000 in
theorem corbelref7_From.l0_pass {C : FuncId → Bool} {X : CallF} (hX : XOk C X) (k n : Nat) : PassS Try.prog C X 20 (.loop corbelref7_From.c58) (lrun [(0, .sl), (3, (.int .i64)), (4, (.int .i64))] none [(3, (.int .i64))] 0 (fun a h => corbelref7_From.l0 k n (a.1) (a.2.1) (a.2.2) h)) :=
  loop_pass (ins := [(0, .sl), (3, (.int .i64)), (4, (.int .i64))]) (rets := none) (outs := [(3, (.int .i64))]) (id := 0) (tbl := corbelref7_From.T k) (an := corbelref7_From.an k) (pb := 116) (corbelref7_From.TS hX k) (fun n => (fun a h => corbelref7_From.l0 k n (a.1) (a.2.1) (a.2.2) h)) (fun a h => rfl) (fun n a h => by kernel_rfl)
    (by
      have e : need (corbelref7_From.an k) corbelref7_From.c58 116 = [] := by kernel_rfl
      rw [e]; intro q hq; cases hq) n
set_option maxRecDepth 100000 in
theorem corbelref7_From.eq (k : Nat) (a : RT [.sl]) (h : H) : (fun a h => corbelref7_From.f k a h) a h = kfun Try.prog (corbelref7_From.T k) (corbelref7_From.an k) (RT [(.int .i64)] × H) Try.f79 (encL [.sl] a) h (fun vs h' => (decL [(.int .i64)] vs).bind fun x => some (x, h')) := by kernel_rfl
set_option maxRecDepth 100000 in
theorem corbelref7_From.told {C : FuncId → Bool} {X : CallF} (hX : XOk C X) (k : Nat) : Den.Told Try.prog C X 79 [.sl] [(.int .i64)] (fun a h => corbelref7_From.f k a h) :=
  told_of fun a h q e => fn_of (c := corbelref7_From.body) (corbelref7_From.TS hX k) Try.func79 (by kernel_rfl) (hX.no 79 _ h (by decide))
    (by
      have e : need (corbelref7_From.an k) corbelref7_From.body 1 = [(Code.loop corbelref7_From.c58, lrun [(0, .sl), (3, (.int .i64)), (4, (.int .i64))] none [(3, (.int .i64))] 0 (fun a h => corbelref7_From.l0 k k (a.1) (a.2.1) (a.2.2) h))] := by kernel_rfl
      rw [e]; intro q hq
      rcases List.mem_cons.1 hq with rfl | hq
      · exact corbelref7_From.l0_pass hX k k
      cases hq)
    ((corbelref7_From.eq k a h).symm.trans e)
/-! ### corbel/corbelref16.ReadRoot -/
noncomputable def corbelref16_ReadRoot.f (k : Nat) (a0 : Sl) (h : H) : Option (((Int × Int × Int × Int) × Bool) × H) :=
  cond ((Int.ofNat a0.n) != (128 : Int))
      ((stv 4 (newR h 46 4 [(Value.int .i64 (0 : Int)), (Value.int .i64 (0 : Int)), (Value.int .i64 (0 : Int)), (Value.int .i64 (0 : Int))]) (some ⟨h.next, 0, none⟩) [(Value.int .i64 (0 : Int)), (Value.int .i64 (0 : Int)), (Value.int .i64 (0 : Int)), (Value.int .i64 (0 : Int))]).bind fun q1 =>
    (asSt [(.int .i64), (.int .i64), (.int .i64), (.int .i64)] (lda 4 q1.2 (some ⟨h.next, 0, none⟩))).bind fun s2 =>
    some (((s2.1, s2.2.1, s2.2.2.1, s2.2.2.2), false), q1.2))
      ((asS (subs 1 (Value.slice a0.a a0.n a0.c) none (some (6 : Int)))).bind fun s3 =>
    (corbelref7_From.f k s3 (newR h 46 4 [(Value.int .i64 (0 : Int)), (Value.int .i64 (0 : Int)), (Value.int .i64 (0 : Int)), (Value.int .i64 (0 : Int))])).bind fun q4 =>
    (asP (ixs 1 a0.a a0.n (6 : Int))).bind fun p5 =>
    (asI .u8 (ldc q4.2 p5)).bind fun n6 =>
    (asS (subs 1 (Value.slice a0.a a0.n a0.c) (some (7 : Int)) (some (9 : Int)))).bind fun s7 =>
    (corbelref7_From.f k s7 q4.2).bind fun q8 =>
    (asS (subs 1 (Value.slice a0.a a0.n a0.c) (some (9 : Int)) (some (13 : Int)))).bind fun s9 =>
    (corbelref7_From.f k s9 q8.2).bind fun q10 =>
    (stv 4 (newR q10.2 46 4 [(Value.int .i64 (0 : Int)), (Value.int .i64 (0 : Int)), (Value.int .i64 (0 : Int)), (Value.int .i64 (0 : Int))]) (some ⟨q10.2.next, 0, none⟩) [(Value.int .i64 q4.1), (Value.int .i64 (wrapA .i64 n6)), (Value.int .i64 q8.1), (Value.int .i64 q10.1)]).bind fun q11 =>
    cond (same1 (newR h 46 4 [(Value.int .i64 (0 : Int)), (Value.int .i64 (0 : Int)), (Value.int .i64 (0 : Int)), (Value.int .i64 (0 : Int))]) q4.2 (some (Value.pointer p5)) && (same1 q4.2 q8.2 (some (Value.pointer p5)) && (same1 q8.2 q10.2 (some (Value.pointer p5)) && (true)))) ((asSt [(.int .i64), (.int .i64), (.int .i64), (.int .i64)] (lda 4 q11.2 (some ⟨q10.2.next, 0, none⟩))).bind fun s12 =>
    (corbelref16_LayRoot.f k (s12.1, s12.2.1, s12.2.2.1, s12.2.2.2) q11.2).bind fun q13 =>
    (cond (!q13.1.2) (some (true, q13.2))
      ((asT (txt q13.2 (Value.slice q13.1.1.a q13.1.1.n q13.1.1.c))).bind fun s14 =>
    (asT (txt q13.2 (Value.slice a0.a a0.n a0.c))).bind fun s15 =>
    some (!(s14.toList == s15.toList), q13.2))).bind fun g16 =>
    cond g16.1
      ((stv 4 g16.2 (some ⟨h.next, 0, none⟩) [(Value.int .i64 (0 : Int)), (Value.int .i64 (0 : Int)), (Value.int .i64 (0 : Int)), (Value.int .i64 (0 : Int))]).bind fun q17 =>
    (asSt [(.int .i64), (.int .i64), (.int .i64), (.int .i64)] (lda 4 q17.2 (some ⟨h.next, 0, none⟩))).bind fun s18 =>
    some (((s18.1, s18.2.1, s18.2.2.1, s18.2.2.2), false), q17.2))
      ((asSt [(.int .i64), (.int .i64), (.int .i64), (.int .i64)] (lda 4 g16.2 (some ⟨q10.2.next, 0, none⟩))).bind fun s19 =>
    (stv 4 g16.2 (some ⟨h.next, 0, none⟩) [(Value.int .i64 s19.1), (Value.int .i64 s19.2.1), (Value.int .i64 s19.2.2.1), (Value.int .i64 s19.2.2.2)]).bind fun q20 =>
    (asSt [(.int .i64), (.int .i64), (.int .i64), (.int .i64)] (lda 4 q20.2 (some ⟨h.next, 0, none⟩))).bind fun s21 =>
    some (((s21.1, s21.2.1, s21.2.2.1, s21.2.2.2), true), q20.2))) none)
noncomputable def corbelref16_ReadRoot.T (k : Nat) : Tbl := tblOf [⟨79, anyArgs, wr [.sl] [(.int .i64)] (fun a h => corbelref7_From.f k a h)⟩,
  ⟨34, anyArgs, wr [(.st [(.int .i64), (.int .i64), (.int .i64), (.int .i64)])] [.sl, .bool] (fun a h => corbelref16_LayRoot.f k a h)⟩]
noncomputable def corbelref16_ReadRoot.an (k : Nat) (p : Nat) : Option Ann := none
noncomputable def corbelref16_ReadRoot.body : Code := (Try.f37.body).getD .skip
set_option maxRecDepth 100000 in
theorem corbelref16_ReadRoot.TS {C : FuncId → Bool} {X : CallF} (hX : XOk C X) (k : Nat) : TblS Try.prog C X (corbelref16_ReadRoot.T k) := by
  refine tblOf_sound ?_
  intro e he
  rcases List.mem_cons.1 he with rfl | he
  · exact wr_told (corbelref7_From.told hX k)
  rcases List.mem_cons.1 he with rfl | he
  · exact wr_told (corbelref16_LayRoot.told hX k)
  exact absurd he List.not_mem_nil
set_option maxRecDepth 100000 in
theorem corbelref16_ReadRoot.eq (k : Nat) (a : RT [.sl]) (h : H) : (fun a h => corbelref16_ReadRoot.f k a h) a h = kfun Try.prog (corbelref16_ReadRoot.T k) (corbelref16_ReadRoot.an k) (RT [(.st [(.int .i64), (.int .i64), (.int .i64), (.int .i64)]), .bool] × H) Try.f37 (encL [.sl] a) h (fun vs h' => (decL [(.st [(.int .i64), (.int .i64), (.int .i64), (.int .i64)]), .bool] vs).bind fun x => some (x, h')) := by kernel_rfl
set_option maxRecDepth 100000 in
theorem corbelref16_ReadRoot.told {C : FuncId → Bool} {X : CallF} (hX : XOk C X) (k : Nat) : Den.Told Try.prog C X 37 [.sl] [(.st [(.int .i64), (.int .i64), (.int .i64), (.int .i64)]), .bool] (fun a h => corbelref16_ReadRoot.f k a h) :=
  told_of fun a h q e => fn_of (c := corbelref16_ReadRoot.body) (corbelref16_ReadRoot.TS hX k) Try.func37 (by kernel_rfl) (hX.no 37 _ h (by decide))
    (by
      have e : need (corbelref16_ReadRoot.an k) corbelref16_ReadRoot.body 1 = [] := by kernel_rfl
      rw [e]; intro q hq; cases hq)
    ((corbelref16_ReadRoot.eq k a h).symm.trans e)
/-! ### corbel/corbellaw19.MetaRoots -/
noncomputable def corbellaw19_MetaRoots.l0 (k : Nat) (n : Nat) : Sl → Int → Sl → Int → H → Option ((Unit) × H) :=
  Nat.rec (motive := fun _ => Sl → Int → Sl → Int → H → Option ((Unit) × H)) (fun _ _ _ _ _ => none) (fun _ ih x17 x18 x19 x20 h21 => (cond (decide (x20 < (Int.ofNat x17.n))) (some (decide (x20 < (2 : Int)), h21))
      (some (false, h21))).bind fun g22 =>
    cond g22.1
      ((asP (ixs 1 x17.a x17.n x20)).bind fun p23 =>
    (asI .i64 (ldc g22.2 p23)).bind fun n24 =>
    (corbelhand_Pick.f k n24 (16 : Int) g22.2).bind fun q25 =>
    (asP (ixs 1 x19.a x19.n q25.1)).bind fun p26 =>
    (asI .u8 (ldc q25.2 p26)).bind fun n27 =>
    (asI .u8 (intA .xor .u8 n27 x18)).bind fun n28 =>
    (asP (ixs 1 x19.a x19.n q25.1)).bind fun p29 =>
    (stv 1 q25.2 p29 [(Value.int .u8 n28)]).bind fun q30 =>
    ih x17 x18 x19 (wrapA .i64 (x20 + (1 : Int))) q30.2)
      (some ((), g22.2))) n
theorem corbellaw19_MetaRoots.l0_zero (k : Nat) (x17 : Sl) (x18 : Int) (x19 : Sl) (x20 : Int) (h21 : H) : corbellaw19_MetaRoots.l0 k 0 x17 x18 x19 x20 h21 = none := rfl
theorem corbellaw19_MetaRoots.l0_succ (k n : Nat) (x17 : Sl) (x18 : Int) (x19 : Sl) (x20 : Int) (h21 : H) : corbellaw19_MetaRoots.l0 k (n + 1) x17 x18 x19 x20 h21 = ((cond (decide (x20 < (Int.ofNat x17.n))) (some (decide (x20 < (2 : Int)), h21))
      (some (false, h21))).bind fun g22 =>
    cond g22.1
      ((asP (ixs 1 x17.a x17.n x20)).bind fun p23 =>
    (asI .i64 (ldc g22.2 p23)).bind fun n24 =>
    (corbelhand_Pick.f k n24 (16 : Int) g22.2).bind fun q25 =>
    (asP (ixs 1 x19.a x19.n q25.1)).bind fun p26 =>
    (asI .u8 (ldc q25.2 p26)).bind fun n27 =>
    (asI .u8 (intA .xor .u8 n27 x18)).bind fun n28 =>
    (asP (ixs 1 x19.a x19.n q25.1)).bind fun p29 =>
    (stv 1 q25.2 p29 [(Value.int .u8 n28)]).bind fun q30 =>
    corbellaw19_MetaRoots.l0 k n x17 x18 x19 (wrapA .i64 (x20 + (1 : Int))) q30.2)
      (some ((), g22.2))) := rfl
noncomputable def corbellaw19_MetaRoots.f (k : Nat) (a0 : Int) (a1 : Int) (a2 : Int) (a3 : Int) (a4 : Bool) (a5 : Sl) (a6 : Int) (a7 : Sl) (h : H) : Option ((Bool) × H) :=
  (stv 4 (newR h 46 4 [(Value.int .i64 (0 : Int)), (Value.int .i64 (0 : Int)), (Value.int .i64 (0 : Int)), (Value.int .i64 (0 : Int))]) (some ⟨h.next, 0, none⟩) [(Value.int .i64 a0), (Value.int .i64 a1), (Value.int .i64 a2), (Value.int .i64 a3)]).bind fun q1 =>
    (cond a4
      ((corbelhand_Pick.f k a0 (1099511627776 : Int) q1.2).bind fun q2 =>
    (corbelhand_Pick.f k a1 (2 : Int) q2.2).bind fun q3 =>
    (corbelhand_Pick.f k a2 (1030 : Int) q3.2).bind fun q4 =>
    (corbelhand_Pick.f k a3 (4294967296 : Int) q4.2).bind fun q5 =>
    (stv 4 q5.2 (some ⟨h.next, 0, none⟩) [(Value.int .i64 (wrapA .i64 ((1 : Int) + q2.1))), (Value.int .i64 q3.1), (Value.int .i64 (wrapA .i64 ((1 : Int) + q4.1))), (Value.int .i64 q5.1)]).bind fun q6 =>
    some ((), q6.2))
      (some ((), q1.2)) : Option ((Unit) × H)).bind fun j7 =>
    (asSt [(.int .i64), (.int .i64), (.int .i64), (.int .i64)] (lda 4 j7.2 (some ⟨h.next, 0, none⟩))).bind fun s8 =>
    (meta_LayRoot.f k (s8.1, s8.2.1, s8.2.2.1, s8.2.2.2) j7.2).bind fun q9 =>
    (asSt [(.int .i64), (.int .i64), (.int .i64), (.int .i64)] (lda 4 q9.2 (some ⟨h.next, 0, none⟩))).bind fun s10 =>
    (corbelref16_LayRoot.f k (s10.1, s10.2.1, s10.2.2.1, s10.2.2.2) q9.2).bind fun q11 =>
    (asT (txt q11.2 (Value.slice q9.1.1.a q9.1.1.n q9.1.1.c))).bind fun s12 =>
    (asT (txt q11.2 (Value.slice q11.1.1.a q11.1.1.n q11.1.1.c))).bind fun s13 =>
    (cond (!(s12.toList == s13.toList)) (some (true, q11.2))
      (some (!((q9.1.2 == (0 : Int)) == q11.1.2), q11.2))).bind fun g14 =>
    cond g14.1
      (some (false, g14.2))
      ((corbelhand_Few.f k a7 (Int.ofNat a7.n) g14.2).bind fun q15 =>
    (cond q11.1.2
      ((corbelhand_Few.f k q11.1.1 (Int.ofNat q11.1.1.n) q15.2).bind fun q16 =>
    (corbellaw19_MetaRoots.l0 k k a5 a6 q16.1 (0 : Int) q16.2).bind fun w31 =>
    some (q16.1, w31.2))
      (some (q15.1, q15.2)) : Option ((Sl) × H)).bind fun j32 =>
    (meta_ReadRoot.f k j32.1 j32.2).bind fun q33 =>
    (stv 4 (newR q33.2 46 4 [(Value.int .i64 (0 : Int)), (Value.int .i64 (0 : Int)), (Value.int .i64 (0 : Int)), (Value.int .i64 (0 : Int))]) (some ⟨q33.2.next, 0, none⟩) [(Value.int .i64 q33.1.1.1), (Value.int .i64 q33.1.1.2.1), (Value.int .i64 q33.1.1.2.2.1), (Value.int .i64 q33.1.1.2.2.2)]).bind fun q34 =>
    (corbelref16_ReadRoot.f k j32.1 q34.2).bind fun q35 =>
    (stv 4 (newR q35.2 46 4 [(Value.int .i64 (0 : Int)), (Value.int .i64 (0 : Int)), (Value.int .i64 (0 : Int)), (Value.int .i64 (0 : Int))]) (some ⟨q35.2.next, 0, none⟩) [(Value.int .i64 q35.1.1.1), (Value.int .i64 q35.1.1.2.1), (Value.int .i64 q35.1.1.2.2.1), (Value.int .i64 q35.1.1.2.2.2)]).bind fun q36 =>
    (cond true ((asSt [(.int .i64), (.int .i64), (.int .i64), (.int .i64)] (lda 4 q36.2 (some ⟨q33.2.next, 0, none⟩))).bind fun s37 =>
    (asSt [(.int .i64), (.int .i64), (.int .i64), (.int .i64)] (lda 4 q36.2 (some ⟨q35.2.next, 0, none⟩))).bind fun s38 =>
    (asB (binO1 Try.prog .eql 46 (Value.agg #[(Value.int .i64 s37.1), (Value.int .i64 s37.2.1), (Value.int .i64 s37.2.2.1), (Value.int .i64 s37.2.2.2)]) (Value.agg #[(Value.int .i64 s38.1), (Value.int .i64 s38.2.1), (Value.int .i64 s38.2.2.1), (Value.int .i64 s38.2.2.2)]))).bind fun b39 =>
    some (b39, q36.2))
      (some (false, q36.2))).bind fun g40 =>
    (cond g40.1 (some ((q33.1.2 == (0 : Int)) == q35.1.2, g40.2))
      (some (false, g40.2))).bind fun g41 =>
    some (g41.1, g41.2))
noncomputable def corbellaw19_MetaRoots.T (k : Nat) : Tbl := tblOf [⟨19, anyArgs, wr [(.int .i64), (.int .i64)] [(.int .i64)] (fun a h => corbelhand_Pick.f k (a.1) (a.2) h)⟩,
  ⟨33, anyArgs, wr [(.st [(.int .i64), (.int .i64), (.int .i64), (.int .i64)])] [.sl, (.int .i64)] (fun a h => meta_LayRoot.f k a h)⟩,
  ⟨34, anyArgs, wr [(.st [(.int .i64), (.int .i64), (.int .i64), (.int .i64)])] [.sl, .bool] (fun a h => corbelref16_LayRoot.f k a h)⟩,
  ⟨35, anyArgs, wr [.sl, (.int .i64)] [.sl] (fun a h => corbelhand_Few.f k (a.1) (a.2) h)⟩,
  ⟨36, anyArgs, wr [.sl] [(.st [(.int .i64), (.int .i64), (.int .i64), (.int .i64)]), (.int .i64)] (fun a h => meta_ReadRoot.f k a h)⟩,
  ⟨37, anyArgs, wr [.sl] [(.st [(.int .i64), (.int .i64), (.int .i64), (.int .i64)]), .bool] (fun a h => corbelref16_ReadRoot.f k a h)⟩,
  ⟨38, anyArgs, knownW⟩]
noncomputable def corbellaw19_MetaRoots.an (k : Nat) (p : Nat) : Option Ann := cond (Nat.beq p 1021) (some (.join [] none [(22, .sl)]))
  (cond (Nat.beq p 16342) (some (.pass [22] (lrun [(5, .sl), (6, (.int .u8)), (22, .sl), (23, (.int .i64))] none [] 0 (fun a h => corbellaw19_MetaRoots.l0 k k (a.1) (a.2.1) (a.2.2.1) (a.2.2.2) h))))
  (cond (Nat.beq p 29) (some (.join [5, 6, 7, 17] none []))
  (none)))
noncomputable def corbellaw19_MetaRoots.body : Code := (Try.f8.body).getD .skip
noncomputable def corbellaw19_MetaRoots.c16342 : Code := cat corbellaw19_MetaRoots.body [1, 1, 1, 1, 1, 1, 1, 0, 1, 0, 1, 1, 0, 0]
set_option maxRecDepth 100000 in
theorem corbellaw19_MetaRoots.TS {C : FuncId → Bool} {X : CallF} (hX : XOk C X) (hK38 : KOk X 38) (k : Nat) : TblS Try.prog C X (corbellaw19_MetaRoots.T k) := by
  refine tblOf_sound ?_
  intro e he
  rcases List.mem_cons.1 he with rfl | he
  · exact wr_told (corbelhand_Pick.told hX k)
  rcases List.mem_cons.1 he with rfl | he
  · exact wr_told (meta_LayRoot.told hX k)
  rcases List.mem_cons.1 he with rfl | he
  · exact wr_told (corbelref16_LayRoot.told hX k)
  rcases List.mem_cons.1 he with rfl | he
  · exact wr_told (corbelhand_Few.told hX k)
  rcases List.mem_cons.1 he with rfl | he
  · exact wr_told (meta_ReadRoot.told hX k)
  rcases List.mem_cons.1 he with rfl | he
  · exact wr_told (corbelref16_ReadRoot.told hX k)
  rcases List.mem_cons.1 he with rfl | he
  · exact knownW_told hK38
  exact absurd he List.not_mem_nil
set_option maxRecDepth 100000 in
theorem corbellaw19_MetaRoots.l0_pass {C : FuncId → Bool} {X : CallF} (hX : XOk C X) (hK38 : KOk X 38) (k n : Nat) : PassS Try.prog C X 118 (.loop corbellaw19_MetaRoots.c16342) (lrun [(5, .sl), (6, (.int .u8)), (22, .sl), (23, (.int .i64))] none [] 0 (fun a h => corbellaw19_MetaRoots.l0 k n (a.1) (a.2.1) (a.2.2.1) (a.2.2.2) h)) :=
  loop_pass (ins := [(5, .sl), (6, (.int .u8)), (22, .sl), (23, (.int .i64))]) (rets := none) (outs := []) (id := 0) (tbl := corbellaw19_MetaRoots.T k) (an := corbellaw19_MetaRoots.an k) (pb := 32684) (corbellaw19_MetaRoots.TS hX hK38 k) (fun n => (fun a h => corbellaw19_MetaRoots.l0 k n (a.1) (a.2.1) (a.2.2.1) (a.2.2.2) h)) (fun a h => rfl) (fun n a h => by kernel_rfl)
    (by
      have e : need (corbellaw19_MetaRoots.an k) corbellaw19_MetaRoots.c16342 32684 = [] := by kernel_rfl
      rw [e]; intro q hq; cases hq) n
set_option maxRecDepth 100000 in
theorem corbellaw19_MetaRoots.eq (k : Nat) (a : RT [(.int .i64), (.int .i64), (.int .i64), (.int .i64), .bool, .sl, (.int .u8), .sl]) (h : H) : (fun a h => corbellaw19_MetaRoots.f k (a.1) (a.2.1) (a.2.2.1) (a.2.2.2.1) (a.2.2.2.2.1) (a.2.2.2.2.2.1) (a.2.2.2.2.2.2.1) (a.2.2.2.2.2.2.2) h) a h = kfun Try.prog (corbellaw19_MetaRoots.T k) (corbellaw19_MetaRoots.an k) (RT [.bool] × H) Try.f8 (encL [(.int .i64), (.int .i64), (.int .i64), (.int .i64), .bool, .sl, (.int .u8), .sl] a) h (fun vs h' => (decL [.bool] vs).bind fun x => some (x, h')) := by kernel_rfl
set_option maxRecDepth 100000 in
theorem corbellaw19_MetaRoots.told {C : FuncId → Bool} {X : CallF} (hX : XOk C X) (hK38 : KOk X 38) (k : Nat) : Den.Told Try.prog C X 8 [(.int .i64), (.int .i64), (.int .i64), (.int .i64), .bool, .sl, (.int .u8), .sl] [.bool] (fun a h => corbellaw19_MetaRoots.f k (a.1) (a.2.1) (a.2.2.1) (a.2.2.2.1) (a.2.2.2.2.1) (a.2.2.2.2.2.1) (a.2.2.2.2.2.2.1) (a.2.2.2.2.2.2.2) h) :=
  told_of fun a h q e => fn_of (c := corbellaw19_MetaRoots.body) (corbellaw19_MetaRoots.TS hX hK38 k) Try.func8 (by kernel_rfl) (hX.no 8 _ h (by decide))
    (by
      have e : need (corbellaw19_MetaRoots.an k) corbellaw19_MetaRoots.body 1 = [(Code.loop corbellaw19_MetaRoots.c16342, lrun [(5, .sl), (6, (.int .u8)), (22, .sl), (23, (.int .i64))] none [] 0 (fun a h => corbellaw19_MetaRoots.l0 k k (a.1) (a.2.1) (a.2.2.1) (a.2.2.2) h))] := by kernel_rfl
      rw [e]; intro q hq
      rcases List.mem_cons.1 hq with rfl | hq
      · exact corbellaw19_MetaRoots.l0_pass hX hK38 k k
      cases hq)
    ((corbellaw19_MetaRoots.eq k a h).symm.trans e)
end Go.Proofs.Ytfenkpghcbohdaa.Fwd
