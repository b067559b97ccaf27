/- Forward runs of functions of the program, printed by a program of this session: each function on plain values and memory, and that the code comes to it. No condition. -/
import Derived.Test.YtfenkpghcbohdaaDenCmp
import Derived.KernelRfl
namespace Go.Proofs.Ytfenkpghcbohdaa.Fwd
open Go Den
set_option linter.unusedVariables false
/-! ### corbel/corbelhand.Pick -/
noncomputable def corbelhand_Pick.f (k : Nat) (a0 : Int) (a1 : Int) (h : H) : Option ((Int) × H) :=
  (asI .i64 (intA .rem .i64 a0 a1)).bind fun n1 =>
    (cond (decide (n1 < (0 : Int)))
      (some (wrapA .i64 (n1 + a1), h))
      (some (n1, h)) : Option ((Int) × H)).bind fun j2 =>
    some (j2.1, j2.2)
noncomputable def corbelhand_Pick.T (k : Nat) : Tbl := tblOf []
noncomputable def corbelhand_Pick.an (k : Nat) (p : Nat) : Option Ann := cond (Nat.beq p 29) (some (.join [] none [(0, (.int .i64))]))
  (none)
noncomputable def corbelhand_Pick.body : Code := (Try.f19.body).getD .skip
set_option maxRecDepth 100000 in
theorem corbelhand_Pick.TS {C : FuncId → Bool} {X : CallF} (hX : XOk C X) (k : Nat) : TblS Try.prog C X (corbelhand_Pick.T k) := by
  refine tblOf_sound ?_
  intro e he
  exact absurd he List.not_mem_nil
set_option maxRecDepth 100000 in
theorem corbelhand_Pick.eq (k : Nat) (a : RT [(.int .i64), (.int .i64)]) (h : H) : (fun a h => corbelhand_Pick.f k (a.1) (a.2) h) a h = kfun Try.prog (corbelhand_Pick.T k) (corbelhand_Pick.an k) (RT [(.int .i64)] × H) Try.f19 (encL [(.int .i64), (.int .i64)] a) h (fun vs h' => (decL [(.int .i64)] vs).bind fun x => some (x, h')) := by kernel_rfl
set_option maxRecDepth 100000 in
theorem corbelhand_Pick.told {C : FuncId → Bool} {X : CallF} (hX : XOk C X) (k : Nat) : Den.Told Try.prog C X 19 [(.int .i64), (.int .i64)] [(.int .i64)] (fun a h => corbelhand_Pick.f k (a.1) (a.2) h) :=
  told_of fun a h q e => fn_of (c := corbelhand_Pick.body) (corbelhand_Pick.TS hX k) Try.func19 (by kernel_rfl) (hX.no 19 _ h (by decide))
    (by
      have e : need (corbelhand_Pick.an k) corbelhand_Pick.body 1 = [] := by kernel_rfl
      rw [e]; intro q hq; cases hq)
    ((corbelhand_Pick.eq k a h).symm.trans e)
/-! ### corbel/corbelhand.Bytes -/
noncomputable def corbelhand_Bytes.l0 (k : Nat) (n : Nat) : Int → Sl → Int → Int → H → Option ((Unit) × H) :=
  Nat.rec (motive := fun _ => Int → Sl → Int → Int → H → Option ((Unit) × H)) (fun _ _ _ _ _ => none) (fun _ ih x3 x4 x5 x6 h7 => cond (decide (x6 < x3))
      ((asP (ixs 1 x4.a x4.n x6)).bind fun p8 =>
    (stv 1 h7 p8 [(Value.int .u8 (wrapA .u8 ((wrapA .u64 ((wrapA .u64 (x5 * (6364136223846793005 : Int))) + (1442695040888963407 : Int))).fdiv (2 ^ 56))))]).bind fun q9 =>
    ih x3 x4 (wrapA .u64 ((wrapA .u64 (x5 * (6364136223846793005 : Int))) + (1442695040888963407 : Int))) (wrapA .i64 (x6 + (1 : Int))) q9.2)
      (some ((), h7))) n
theorem corbelhand_Bytes.l0_zero (k : Nat) (x3 : Int) (x4 : Sl) (x5 : Int) (x6 : Int) (h7 : H) : corbelhand_Bytes.l0 k 0 x3 x4 x5 x6 h7 = none := rfl
theorem corbelhand_Bytes.l0_succ (k n : Nat) (x3 : Int) (x4 : Sl) (x5 : Int) (x6 : Int) (h7 : H) : corbelhand_Bytes.l0 k (n + 1) x3 x4 x5 x6 h7 = (cond (decide (x6 < x3))
      ((asP (ixs 1 x4.a x4.n x6)).bind fun p8 =>
    (stv 1 h7 p8 [(Value.int .u8 (wrapA .u8 ((wrapA .u64 ((wrapA .u64 (x5 * (6364136223846793005 : Int))) + (1442695040888963407 : Int))).fdiv (2 ^ 56))))]).bind fun q9 =>
    corbelhand_Bytes.l0 k n x3 x4 (wrapA .u64 ((wrapA .u64 (x5 * (6364136223846793005 : Int))) + (1442695040888963407 : Int))) (wrapA .i64 (x6 + (1 : Int))) q9.2)
      (some ((), h7))) := rfl
noncomputable def corbelhand_Bytes.f (k : Nat) (a0 : Int) (a1 : Int) (h : H) : Option ((Sl) × H) :=
  (asS2 (mkz 5 1 1 [(Value.int .u8 (0 : Int))] a1 a1 h)).bind fun q1 =>
    (corbelhand_Pick.f k a0 (7 : Int) q1.2).bind fun q2 =>
    cond (q2.1 == (6 : Int))
      (some (q1.1, q2.2))
      ((corbelhand_Bytes.l0 k k a1 q1.1 (wrapA .u64 ((wrapA .u64 ((wrapA .u64 a0) * (2654435761 : Int))) + (12345 : Int))) (0 : Int) q2.2).bind fun w10 =>
    some (q1.1, w10.2))
noncomputable def corbelhand_Bytes.T (k : Nat) : Tbl := tblOf [⟨19, anyArgs, wr [(.int .i64), (.int .i64)] [(.int .i64)] (fun a h => corbelhand_Pick.f k (a.1) (a.2) h)⟩]
noncomputable def corbelhand_Bytes.an (k : Nat) (p : Nat) : Option Ann := cond (Nat.beq p 250) (some (.pass [5] (lrun [(1, (.int .i64)), (5, .sl), (6, (.int .u64)), (7, (.int .i64))] none [] 0 (fun a h => corbelhand_Bytes.l0 k k (a.1) (a.2.1) (a.2.2.1) (a.2.2.2) h))))
  (none)
noncomputable def corbelhand_Bytes.body : Code := (Try.f22.body).getD .skip
noncomputable def corbelhand_Bytes.c250 : Code := cat corbelhand_Bytes.body [1, 1, 1, 1, 0, 1, 0, 0]
set_option maxRecDepth 100000 in
theorem corbelhand_Bytes.TS {C : FuncId → Bool} {X : CallF} (hX : XOk C X) (k : Nat) : TblS Try.prog C X (corbelhand_Bytes.T k) := by
  refine tblOf_sound ?_
  intro e he
  rcases List.mem_cons.1 he with rfl | he
  · exact wr_told (corbelhand_Pick.told hX k)
  exact absurd he List.not_mem_nil
set_option maxRecDepth 100000 in
theorem corbelhand_Bytes.l0_pass {C : FuncId → Bool} {X : CallF} (hX : XOk C X) (k n : Nat) : PassS Try.prog C X 33 (.loop corbelhand_Bytes.c250) (lrun [(1, (.int .i64)), (5, .sl), (6, (.int .u64)), (7, (.int .i64))] none [] 0 (fun a h => corbelhand_Bytes.l0 k n (a.1) (a.2.1) (a.2.2.1) (a.2.2.2) h)) :=
  loop_pass (ins := [(1, (.int .i64)), (5, .sl), (6, (.int .u64)), (7, (.int .i64))]) (rets := none) (outs := []) (id := 0) (tbl := corbelhand_Bytes.T k) (an := corbelhand_Bytes.an k) (pb := 500) (corbelhand_Bytes.TS hX k) (fun n => (fun a h => corbelhand_Bytes.l0 k n (a.1) (a.2.1) (a.2.2.1) (a.2.2.2) h)) (fun a h => rfl) (fun n a h => by kernel_rfl)
    (by
      have e : need (corbelhand_Bytes.an k) corbelhand_Bytes.c250 500 = [] := by kernel_rfl
      rw [e]; intro q hq; cases hq) n
set_option maxRecDepth 100000 in
theorem corbelhand_Bytes.eq (k : Nat) (a : RT [(.int .i64), (.int .i64)]) (h : H) : (fun a h => corbelhand_Bytes.f k (a.1) (a.2) h) a h = kfun Try.prog (corbelhand_Bytes.T k) (corbelhand_Bytes.an k) (RT [.sl] × H) Try.f22 (encL [(.int .i64), (.int .i64)] a) h (fun vs h' => (decL [.sl] vs).bind fun x => some (x, h')) := by kernel_rfl
set_option maxRecDepth 100000 in
theorem corbelhand_Bytes.told {C : FuncId → Bool} {X : CallF} (hX : XOk C X) (k : Nat) : Den.Told Try.prog C X 22 [(.int .i64), (.int .i64)] [.sl] (fun a h => corbelhand_Bytes.f k (a.1) (a.2) h) :=
  told_of fun a h q e => fn_of (c := corbelhand_Bytes.body) (corbelhand_Bytes.TS hX k) Try.func22 (by kernel_rfl) (hX.no 22 _ h (by decide))
    (by
      have e : need (corbelhand_Bytes.an k) corbelhand_Bytes.body 1 = [(Code.loop corbelhand_Bytes.c250, lrun [(1, (.int .i64)), (5, .sl), (6, (.int .u64)), (7, (.int .i64))] none [] 0 (fun a h => corbelhand_Bytes.l0 k k (a.1) (a.2.1) (a.2.2.1) (a.2.2.2) h))] := by kernel_rfl
      rw [e]; intro q hq
      rcases List.mem_cons.1 hq with rfl | hq
      · exact corbelhand_Bytes.l0_pass hX k k
      cases hq)
    ((corbelhand_Bytes.eq k a h).symm.trans e)
/-! ### corbel/extent.Overlay -/
noncomputable def extent_Overlay.l0 (k : Nat) (n : Nat) : (Option Nat) → Int → Sl → Int → H → Option ((Unit) × H) :=
  Nat.rec (motive := fun _ => (Option Nat) → Int → Sl → Int → H → Option ((Unit) × H)) (fun _ _ _ _ _ => none) (fun _ ih x3 x4 x5 x6 h7 => cond (decide (x6 < (8 : Int)))
      ((asS (mlook (Value.slice none 0 0) h7 x3 (Value.int .i64 (wrapA .i64 ((wrapA .i64 (x4 * (8 : Int))) + x6))))).bind fun s8 =>
    (cond ((Int.ofNat s8.n) == (16 : Int))
      ((asS (subs 1 (Value.slice x5.a x5.n x5.c) (some (wrapA .i64 (x6 * (16 : Int)))) none)).bind fun s9 =>
    (asI2 .i64 (cpy 1 (Value.slice s9.a s9.n s9.c) (Value.slice s8.a s8.n s8.c) h7)).bind fun q10 =>
    some ((), q10.2))
      (some ((), h7)) : Option ((Unit) × H)).bind fun j11 =>
    ih x3 x4 x5 (wrapA .i64 (x6 + (1 : Int))) j11.2)
      (some ((), h7))) n
theorem extent_Overlay.l0_zero (k : Nat) (x3 : Option Nat) (x4 : Int) (x5 : Sl) (x6 : Int) (h7 : H) : extent_Overlay.l0 k 0 x3 x4 x5 x6 h7 = none := rfl
theorem extent_Overlay.l0_succ (k n : Nat) (x3 : Option Nat) (x4 : Int) (x5 : Sl) (x6 : Int) (h7 : H) : extent_Overlay.l0 k (n + 1) x3 x4 x5 x6 h7 = (cond (decide (x6 < (8 : Int)))
      ((asS (mlook (Value.slice none 0 0) h7 x3 (Value.int .i64 (wrapA .i64 ((wrapA .i64 (x4 * (8 : Int))) + x6))))).bind fun s8 =>
    (cond ((Int.ofNat s8.n) == (16 : Int))
      ((asS (subs 1 (Value.slice x5.a x5.n x5.c) (some (wrapA .i64 (x6 * (16 : Int)))) none)).bind fun s9 =>
    (asI2 .i64 (cpy 1 (Value.slice s9.a s9.n s9.c) (Value.slice s8.a s8.n s8.c) h7)).bind fun q10 =>
    some ((), q10.2))
      (some ((), h7)) : Option ((Unit) × H)).bind fun j11 =>
    extent_Overlay.l0 k n x3 x4 x5 (wrapA .i64 (x6 + (1 : Int))) j11.2)
      (some ((), h7))) := rfl
noncomputable def extent_Overlay.f (k : Nat) (a0 : Sl) (a1 : Option Nat) (a2 : Int) (h : H) : Option ((Sl) × H) :=
  (cond ((Int.ofNat a0.n) == (128 : Int))
      ((asI2 .i64 (cpy 1 (Value.slice (some ⟨h.next, 0, none⟩) 128 128) (Value.slice a0.a a0.n a0.c) (newZ h 5 1 [(Value.int .u8 (0 : Int))] 128))).bind fun q1 =>
    some ((), q1.2))
      (some ((), (newZ h 5 1 [(Value.int .u8 (0 : Int))] 128))) : Option ((Unit) × H)).bind fun j2 =>
    (extent_Overlay.l0 k k a1 a2 (⟨(some ⟨h.next, 0, none⟩), 128, 128⟩ : Sl) (0 : Int) j2.2).bind fun w12 =>
    some ((⟨(some ⟨h.next, 0, none⟩), 128, 128⟩ : Sl), w12.2)
noncomputable def extent_Overlay.T (k : Nat) : Tbl := tblOf []
noncomputable def extent_Overlay.an (k : Nat) (p : Nat) : Option Ann := cond (Nat.beq p 122) (some (.pass [7] (lrun [(1, .map), (2, (.int .i64)), (7, .sl), (17, (.int .i64))] none [] 0 (fun a h => extent_Overlay.l0 k k (a.1) (a.2.1) (a.2.2.1) (a.2.2.2) h))))
  (cond (Nat.beq p 31335) (some (.join [1, 2, 7, 17] none []))
  (cond (Nat.beq p 29) (some (.join [1, 2, 7] none []))
  (none)))
noncomputable def extent_Overlay.body : Code := (Try.f23.body).getD .skip
noncomputable def extent_Overlay.c122 : Code := cat extent_Overlay.body [1, 1, 1, 0, 1, 0, 0]
set_option maxRecDepth 100000 in
theorem extent_Overlay.TS {C : FuncId → Bool} {X : CallF} (hX : XOk C X) (k : Nat) : TblS Try.prog C X (extent_Overlay.T k) := by
  refine tblOf_sound ?_
  intro e he
  exact absurd he List.not_mem_nil
set_option maxRecDepth 100000 in
theorem extent_Overlay.l0_pass {C : FuncId → Bool} {X : CallF} (hX : XOk C X) (k n : Nat) : PassS Try.prog C X 37 (.loop extent_Overlay.c122) (lrun [(1, .map), (2, (.int .i64)), (7, .sl), (17, (.int .i64))] none [] 0 (fun a h => extent_Overlay.l0 k n (a.1) (a.2.1) (a.2.2.1) (a.2.2.2) h)) :=
  loop_pass (ins := [(1, .map), (2, (.int .i64)), (7, .sl), (17, (.int .i64))]) (rets := none) (outs := []) (id := 0) (tbl := extent_Overlay.T k) (an := extent_Overlay.an k) (pb := 244) (extent_Overlay.TS hX k) (fun n => (fun a h => extent_Overlay.l0 k n (a.1) (a.2.1) (a.2.2.1) (a.2.2.2) h)) (fun a h => rfl) (fun n a h => by kernel_rfl)
    (by
      have e : need (extent_Overlay.an k) extent_Overlay.c122 244 = [] := by kernel_rfl
      rw [e]; intro q hq; cases hq) n
set_option maxRecDepth 100000 in
theorem extent_Overlay.eq (k : Nat) (a : RT [.sl, .map, (.int .i64)]) (h : H) : (fun a h => extent_Overlay.f k (a.1) (a.2.1) (a.2.2) h) a h = kfun Try.prog (extent_Overlay.T k) (extent_Overlay.an k) (RT [.sl] × H) Try.f23 (encL [.sl, .map, (.int .i64)] a) h (fun vs h' => (decL [.sl] vs).bind fun x => some (x, h')) := by kernel_rfl
set_option maxRecDepth 100000 in
theorem extent_Overlay.told {C : FuncId → Bool} {X : CallF} (hX : XOk C X) (k : Nat) : Den.Told Try.prog C X 23 [.sl, .map, (.int .i64)] [.sl] (fun a h => extent_Overlay.f k (a.1) (a.2.1) (a.2.2) h) :=
  told_of fun a h q e => fn_of (c := extent_Overlay.body) (extent_Overlay.TS hX k) Try.func23 (by kernel_rfl) (hX.no 23 _ h (by decide))
    (by
      have e : need (extent_Overlay.an k) extent_Overlay.body 1 = [(Code.loop extent_Overlay.c122, lrun [(1, .map), (2, (.int .i64)), (7, .sl), (17, (.int .i64))] none [] 0 (fun a h => extent_Overlay.l0 k k (a.1) (a.2.1) (a.2.2.1) (a.2.2.2) h))] := by kernel_rfl
      rw [e]; intro q hq
      rcases List.mem_cons.1 hq with rfl | hq
      · exact extent_Overlay.l0_pass hX k k
      cases hq)
    ((extent_Overlay.eq k a h).symm.trans e)
/-! ### corbel/extent.Empty$1 -/
noncomputable def extent_Empty_1.f (k : Nat) (a0 : Int) (h : H) : Option ((Bool) × H) :=
  some (a0 != (0 : Int), h)
noncomputable def extent_Empty_1.T (k : Nat) : Tbl := tblOf []
noncomputable def extent_Empty_1.an (k : Nat) (p : Nat) : Option Ann := none
noncomputable def extent_Empty_1.body : Code := (Try.f68.body).getD .skip
set_option maxRecDepth 100000 in
theorem extent_Empty_1.TS {C : FuncId → Bool} {X : CallF} (hX : XOk C X) (k : Nat) : TblS Try.prog C X (extent_Empty_1.T k) := by
  refine tblOf_sound ?_
  intro e he
  exact absurd he List.not_mem_nil
set_option maxRecDepth 100000 in
theorem extent_Empty_1.eq (k : Nat) (a : RT [(.int .u8)]) (h : H) : (fun a h => extent_Empty_1.f k a h) a h = kfun Try.prog (extent_Empty_1.T k) (extent_Empty_1.an k) (RT [.bool] × H) Try.f68 (encL [(.int .u8)] a) h (fun vs h' => (decL [.bool] vs).bind fun x => some (x, h')) := by kernel_rfl
set_option maxRecDepth 100000 in
theorem extent_Empty_1.told {C : FuncId → Bool} {X : CallF} (hX : XOk C X) (k : Nat) : Den.Told Try.prog C X 68 [(.int .u8)] [.bool] (fun a h => extent_Empty_1.f k a h) :=
  told_of fun a h q e => fn_of (c := extent_Empty_1.body) (extent_Empty_1.TS hX k) Try.func68 (by kernel_rfl) (hX.no 68 _ h (by decide))
    (by
      have e : need (extent_Empty_1.an k) extent_Empty_1.body 1 = [] := by kernel_rfl
      rw [e]; intro q hq; cases hq)
    ((extent_Empty_1.eq k a h).symm.trans e)
/-! ### slices.IndexFunc[[]byte,byte] -/
noncomputable def slices_IndexFunc_byte_byte_extent_Empty_1.l0 (k : Nat) (n : Nat) : Sl → Unit → Int → Int → H → Option (((Int) ⊕ (Unit)) × H) :=
  Nat.rec (motive := fun _ => Sl → Unit → Int → Int → H → Option (((Int) ⊕ (Unit)) × H)) (fun _ _ _ _ _ => none) (fun _ ih x1 x2 x3 x4 h5 => cond (decide (x4 < x3))
      ((asP (ixs 1 x1.a x1.n x4)).bind fun p6 =>
    (asI .u8 (ldc h5 p6)).bind fun n7 =>
    (extent_Empty_1.f k n7 h5).bind fun q8 =>
    cond q8.1
      (some (Sum.inl x4, q8.2))
      (ih x1 () x3 (wrapA .i64 (x4 + (1 : Int))) q8.2))
      (some (Sum.inr (), h5))) n
theorem slices_IndexFunc_byte_byte_extent_Empty_1.l0_zero (k : Nat) (x1 : Sl) (x2 : Unit) (x3 : Int) (x4 : Int) (h5 : H) : slices_IndexFunc_byte_byte_extent_Empty_1.l0 k 0 x1 x2 x3 x4 h5 = none := rfl
theorem slices_IndexFunc_byte_byte_extent_Empty_1.l0_succ (k n : Nat) (x1 : Sl) (x2 : Unit) (x3 : Int) (x4 : Int) (h5 : H) : slices_IndexFunc_byte_byte_extent_Empty_1.l0 k (n + 1) x1 x2 x3 x4 h5 = (cond (decide (x4 < x3))
      ((asP (ixs 1 x1.a x1.n x4)).bind fun p6 =>
    (asI .u8 (ldc h5 p6)).bind fun n7 =>
    (extent_Empty_1.f k n7 h5).bind fun q8 =>
    cond q8.1
      (some (Sum.inl x4, q8.2))
      (slices_IndexFunc_byte_byte_extent_Empty_1.l0 k n x1 () x3 (wrapA .i64 (x4 + (1 : Int))) q8.2))
      (some (Sum.inr (), h5))) := rfl
noncomputable def slices_IndexFunc_byte_byte_extent_Empty_1.f (k : Nat) (a0 : Sl) (a1 : Unit) (h : H) : Option ((Int) × H) :=
  (slices_IndexFunc_byte_byte_extent_Empty_1.l0 k k a0 () (Int.ofNat a0.n) (0 : Int) h).bind fun w9 =>
    match w9.1 with
    | .inl r10 => some (r10, w9.2)
    | .inr o11 => some ((-1 : Int), w9.2)
noncomputable def slices_IndexFunc_byte_byte_extent_Empty_1.T (k : Nat) : Tbl := tblOf [⟨68, anyArgs, wr [(.int .u8)] [.bool] (fun a h => extent_Empty_1.f k a h)⟩]
noncomputable def slices_IndexFunc_byte_byte_extent_Empty_1.an (k : Nat) (p : Nat) : Option Ann := cond (Nat.beq p 26) (some (.pass [] (lrun [(0, .sl), (1, (.fn 68 0)), (7, (.int .i64)), (8, (.int .i64))] (some [(4, (.int .i64))]) [] 0 (fun a h => slices_IndexFunc_byte_byte_extent_Empty_1.l0 k k (a.1) (a.2.1) (a.2.2.1) (a.2.2.2) h))))
  (none)
noncomputable def slices_IndexFunc_byte_byte_extent_Empty_1.body : Code := (Try.f103.body).getD .skip
noncomputable def slices_IndexFunc_byte_byte_extent_Empty_1.c26 : Code := cat slices_IndexFunc_byte_byte_extent_Empty_1.body [1, 0, 1, 0, 0]
set_option maxRecDepth 100000 in
theorem slices_IndexFunc_byte_byte_extent_Empty_1.TS {C : FuncId → Bool} {X : CallF} (hX : XOk C X) (k : Nat) : TblS Try.prog C X (slices_IndexFunc_byte_byte_extent_Empty_1.T k) := by
  refine tblOf_sound ?_
  intro e he
  rcases List.mem_cons.1 he with rfl | he
  · exact wr_told (extent_Empty_1.told hX k)
  exact absurd he List.not_mem_nil
set_option maxRecDepth 100000 in
theorem slices_IndexFunc_byte_byte_extent_Empty_1.l0_pass {C : FuncId → Bool} {X : CallF} (hX : XOk C X) (k n : Nat) : PassS Try.prog C X 19 (.loop slices_IndexFunc_byte_byte_extent_Empty_1.c26) (lrun [(0, .sl), (1, (.fn 68 0)), (7, (.int .i64)), (8, (.int .i64))] (some [(4, (.int .i64))]) [] 0 (fun a h => slices_IndexFunc_byte_byte_extent_Empty_1.l0 k n (a.1) (a.2.1) (a.2.2.1) (a.2.2.2) h)) :=
  loop_pass (ins := [(0, .sl), (1, (.fn 68 0)), (7, (.int .i64)), (8, (.int .i64))]) (rets := (some [(4, (.int .i64))])) (outs := []) (id := 0) (tbl := slices_IndexFunc_byte_byte_extent_Empty_1.T k) (an := slices_IndexFunc_byte_byte_extent_Empty_1.an k) (pb := 52) (slices_IndexFunc_byte_byte_extent_Empty_1.TS hX k) (fun n => (fun a h => slices_IndexFunc_byte_byte_extent_Empty_1.l0 k n (a.1) (a.2.1) (a.2.2.1) (a.2.2.2) h)) (fun a h => rfl) (fun n a h => by kernel_rfl)
    (by
      have e : need (slices_IndexFunc_byte_byte_extent_Empty_1.an k) slices_IndexFunc_byte_byte_extent_Empty_1.c26 52 = [] := by kernel_rfl
      rw [e]; intro q hq; cases hq) n
set_option maxRecDepth 100000 in
theorem slices_IndexFunc_byte_byte_extent_Empty_1.eq (k : Nat) (a : RT [.sl, (.fn 68 0)]) (h : H) : (fun a h => slices_IndexFunc_byte_byte_extent_Empty_1.f k (a.1) (a.2) h) a h = kfun Try.prog (slices_IndexFunc_byte_byte_extent_Empty_1.T k) (slices_IndexFunc_byte_byte_extent_Empty_1.an k) (RT [(.int .i64)] × H) Try.f103 (encL [.sl, (.fn 68 0)] a) h (fun vs h' => (decL [(.int .i64)] vs).bind fun x => some (x, h')) := by kernel_rfl
set_option maxRecDepth 100000 in
theorem slices_IndexFunc_byte_byte_extent_Empty_1.told {C : FuncId → Bool} {X : CallF} (hX : XOk C X) (k : Nat) : Den.Told Try.prog C X 103 [.sl, (.fn 68 0)] [(.int .i64)] (fun a h => slices_IndexFunc_byte_byte_extent_Empty_1.f k (a.1) (a.2) h) :=
  told_of fun a h q e => fn_of (c := slices_IndexFunc_byte_byte_extent_Empty_1.body) (slices_IndexFunc_byte_byte_extent_Empty_1.TS hX k) Try.func103 (by kernel_rfl) (hX.no 103 _ h (by decide))
    (by
      have e : need (slices_IndexFunc_byte_byte_extent_Empty_1.an k) slices_IndexFunc_byte_byte_extent_Empty_1.body 1 = [(Code.loop slices_IndexFunc_byte_byte_extent_Empty_1.c26, lrun [(0, .sl), (1, (.fn 68 0)), (7, (.int .i64)), (8, (.int .i64))] (some [(4, (.int .i64))]) [] 0 (fun a h => slices_IndexFunc_byte_byte_extent_Empty_1.l0 k k (a.1) (a.2.1) (a.2.2.1) (a.2.2.2) h))] := by kernel_rfl
      rw [e]; intro q hq
      rcases List.mem_cons.1 hq with rfl | hq
      · exact slices_IndexFunc_byte_byte_extent_Empty_1.l0_pass hX k k
      cases hq)
    ((slices_IndexFunc_byte_byte_extent_Empty_1.eq k a h).symm.trans e)
/-! ### slices.ContainsFunc[[]byte,byte] -/
noncomputable def slices_ContainsFunc_byte_byte_extent_Empty_1.f (k : Nat) (a0 : Sl) (a1 : Unit) (h : H) : Option ((Bool) × H) :=
  (slices_IndexFunc_byte_byte_extent_Empty_1.f k a0 () h).bind fun q1 =>
    some (decide (q1.1 ≥ (0 : Int)), q1.2)
noncomputable def slices_ContainsFunc_byte_byte_extent_Empty_1.T (k : Nat) : Tbl := tblOf [⟨103, chkF [(1, 68)], wr [.sl, (.fn 68 0)] [(.int .i64)] (fun a h => slices_IndexFunc_byte_byte_extent_Empty_1.f k (a.1) (a.2) h)⟩]
noncomputable def slices_ContainsFunc_byte_byte_extent_Empty_1.an (k : Nat) (p : Nat) : Option Ann := none
noncomputable def slices_ContainsFunc_byte_byte_extent_Empty_1.body : Code := (Try.f67.body).getD .skip
set_option maxRecDepth 100000 in
theorem slices_ContainsFunc_byte_byte_extent_Empty_1.TS {C : FuncId → Bool} {X : CallF} (hX : XOk C X) (k : Nat) : TblS Try.prog C X (slices_ContainsFunc_byte_byte_extent_Empty_1.T k) := by
  refine tblOf_sound ?_
  intro e he
  rcases List.mem_cons.1 he with rfl | he
  · exact wr_told (slices_IndexFunc_byte_byte_extent_Empty_1.told hX k)
  exact absurd he List.not_mem_nil
set_option maxRecDepth 100000 in
theorem slices_ContainsFunc_byte_byte_extent_Empty_1.eq (k : Nat) (a : RT [.sl, (.fn 68 0)]) (h : H) : (fun a h => slices_ContainsFunc_byte_byte_extent_Empty_1.f k (a.1) (a.2) h) a h = kfun Try.prog (slices_ContainsFunc_byte_byte_extent_Empty_1.T k) (slices_ContainsFunc_byte_byte_extent_Empty_1.an k) (RT [.bool] × H) Try.f67 (encL [.sl, (.fn 68 0)] a) h (fun vs h' => (decL [.bool] vs).bind fun x => some (x, h')) := by kernel_rfl
set_option maxRecDepth 100000 in
theorem slices_ContainsFunc_byte_byte_extent_Empty_1.told {C : FuncId → Bool} {X : CallF} (hX : XOk C X) (k : Nat) : Den.Told Try.prog C X 67 [.sl, (.fn 68 0)] [.bool] (fun a h => slices_ContainsFunc_byte_byte_extent_Empty_1.f k (a.1) (a.2) h) :=
  told_of fun a h q e => fn_of (c := slices_ContainsFunc_byte_byte_extent_Empty_1.body) (slices_ContainsFunc_byte_byte_extent_Empty_1.TS hX k) Try.func67 (by kernel_rfl) (hX.no 67 _ h (by decide))
    (by
      have e : need (slices_ContainsFunc_byte_byte_extent_Empty_1.an k) slices_ContainsFunc_byte_byte_extent_Empty_1.body 1 = [] := by kernel_rfl
      rw [e]; intro q hq; cases hq)
    ((slices_ContainsFunc_byte_byte_extent_Empty_1.eq k a h).symm.trans e)
/-! ### corbel/extent.Empty -/
noncomputable def extent_Empty.f (k : Nat) (a0 : Sl) (h : H) : Option ((Bool) × H) :=
  (slices_ContainsFunc_byte_byte_extent_Empty_1.f k a0 () h).bind fun q1 =>
    some (!q1.1, q1.2)
noncomputable def extent_Empty.T (k : Nat) : Tbl := tblOf [⟨67, chkF [(1, 68)], wr [.sl, (.fn 68 0)] [.bool] (fun a h => slices_ContainsFunc_byte_byte_extent_Empty_1.f k (a.1) (a.2) h)⟩]
noncomputable def extent_Empty.an (k : Nat) (p : Nat) : Option Ann := none
noncomputable def extent_Empty.body : Code := (Try.f24.body).getD .skip
set_option maxRecDepth 100000 in
theorem extent_Empty.TS {C : FuncId → Bool} {X : CallF} (hX : XOk C X) (k : Nat) : TblS Try.prog C X (extent_Empty.T k) := by
  refine tblOf_sound ?_
  intro e he
  rcases List.mem_cons.1 he with rfl | he
  · exact wr_told (slices_ContainsFunc_byte_byte_extent_Empty_1.told hX k)
  exact absurd he List.not_mem_nil
set_option maxRecDepth 100000 in
theorem extent_Empty.eq (k : Nat) (a : RT [.sl]) (h : H) : (fun a h => extent_Empty.f k a h) a h = kfun Try.prog (extent_Empty.T k) (extent_Empty.an k) (RT [.bool] × H) Try.f24 (encL [.sl] a) h (fun vs h' => (decL [.bool] vs).bind fun x => some (x, h')) := by kernel_rfl
set_option maxRecDepth 100000 in
theorem extent_Empty.told {C : FuncId → Bool} {X : CallF} (hX : XOk C X) (k : Nat) : Den.Told Try.prog C X 24 [.sl] [.bool] (fun a h => extent_Empty.f k a h) :=
  told_of fun a h q e => fn_of (c := extent_Empty.body) (extent_Empty.TS hX k) Try.func24 (by kernel_rfl) (hX.no 24 _ h (by decide))
    (by
      have e : need (extent_Empty.an k) extent_Empty.body 1 = [] := by kernel_rfl
      rw [e]; intro q hq; cases hq)
    ((extent_Empty.eq k a h).symm.trans e)
/-! ### corbel/corbellaw17.ExtentLays -/
noncomputable def corbellaw17_ExtentLays.l1 (k : Nat) (n : Nat) : Sl → Int → (Option Nat) → Sl → Bool → Int → H → Option (((Bool) ⊕ (Bool)) × H) :=
  Nat.rec (motive := fun _ => Sl → Int → (Option Nat) → Sl → Bool → Int → H → Option (((Bool) ⊕ (Bool)) × H)) (fun _ _ _ _ _ _ _ => none) (fun _ ih x27 x28 x29 x30 x31 x32 h33 => cond (decide (x32 < (8 : Int)))
      ((asT (txt (newZ h33 5 1 [(Value.int .u8 (0 : Int))] 16) (Value.slice (some ⟨h33.next, 0, none⟩) 16 16))).bind fun s34 =>
    (cond ((Int.ofNat x27.n) == (128 : Int))
      ((asS (subs 1 (Value.slice x27.a x27.n x27.c) (some (wrapA .i64 (x32 * (16 : Int)))) (some (wrapA .i64 ((wrapA .i64 (x32 + (1 : Int))) * (16 : Int)))))).bind fun s35 =>
    (asT (txt (newZ h33 5 1 [(Value.int .u8 (0 : Int))] 16) (Value.slice s35.a s35.n s35.c))).bind fun s36 =>
    some (s36, (newZ h33 5 1 [(Value.int .u8 (0 : Int))] 16)))
      (some (s34, (newZ h33 5 1 [(Value.int .u8 (0 : Int))] 16))) : Option ((ByteArray) × H)).bind fun j37 =>
    (as2 .sl (mlook2 (Value.slice none 0 0) j37.2 x29 (Value.int .i64 (wrapA .i64 ((wrapA .i64 (x28 * (8 : Int))) + x32))))).bind fun q38 =>
    (cond q38.2 (some ((Int.ofNat q38.1.n) == (16 : Int), j37.2))
      (some (false, j37.2))).bind fun g39 =>
    (cond g39.1
      ((asT (txt g39.2 (Value.slice q38.1.a q38.1.n q38.1.c))).bind fun s40 =>
    some (s40, g39.2))
      (some (j37.1, g39.2)) : Option ((ByteArray) × H)).bind fun j41 =>
    (asS (subs 1 (Value.slice x30.a x30.n x30.c) (some (wrapA .i64 (x32 * (16 : Int)))) (some (wrapA .i64 ((wrapA .i64 (x32 + (1 : Int))) * (16 : Int)))))).bind fun s42 =>
    (asT (txt j41.2 (Value.slice s42.a s42.n s42.c))).bind fun s43 =>
    cond (!(s43.toList == j41.1.toList))
      (some (Sum.inl false, j41.2))
      ((cond x31 ((asT (txt (newZ j41.2 5 1 [(Value.int .u8 (0 : Int))] 16) (Value.slice (some ⟨j41.2.next, 0, none⟩) 16 16))).bind fun s44 =>
    some (j41.1.toList == s44.toList, (newZ j41.2 5 1 [(Value.int .u8 (0 : Int))] 16)))
      (some (false, j41.2))).bind fun g45 =>
    ih x27 x28 x29 x30 g45.1 (wrapA .i64 (x32 + (1 : Int))) g45.2))
      (some (Sum.inr x31, h33))) n
theorem corbellaw17_ExtentLays.l1_zero (k : Nat) (x27 : Sl) (x28 : Int) (x29 : Option Nat) (x30 : Sl) (x31 : Bool) (x32 : Int) (h33 : H) : corbellaw17_ExtentLays.l1 k 0 x27 x28 x29 x30 x31 x32 h33 = none := rfl
theorem corbellaw17_ExtentLays.l1_succ (k n : Nat) (x27 : Sl) (x28 : Int) (x29 : Option Nat) (x30 : Sl) (x31 : Bool) (x32 : Int) (h33 : H) : corbellaw17_ExtentLays.l1 k (n + 1) x27 x28 x29 x30 x31 x32 h33 = (cond (decide (x32 < (8 : Int)))
      ((asT (txt (newZ h33 5 1 [(Value.int .u8 (0 : Int))] 16) (Value.slice (some ⟨h33.next, 0, none⟩) 16 16))).bind fun s34 =>
    (cond ((Int.ofNat x27.n) == (128 : Int))
      ((asS (subs 1 (Value.slice x27.a x27.n x27.c) (some (wrapA .i64 (x32 * (16 : Int)))) (some (wrapA .i64 ((wrapA .i64 (x32 + (1 : Int))) * (16 : Int)))))).bind fun s35 =>
    (asT (txt (newZ h33 5 1 [(Value.int .u8 (0 : Int))] 16) (Value.slice s35.a s35.n s35.c))).bind fun s36 =>
    some (s36, (newZ h33 5 1 [(Value.int .u8 (0 : Int))] 16)))
      (some (s34, (newZ h33 5 1 [(Value.int .u8 (0 : Int))] 16))) : Option ((ByteArray) × H)).bind fun j37 =>
    (as2 .sl (mlook2 (Value.slice none 0 0) j37.2 x29 (Value.int .i64 (wrapA .i64 ((wrapA .i64 (x28 * (8 : Int))) + x32))))).bind fun q38 =>
    (cond q38.2 (some ((Int.ofNat q38.1.n) == (16 : Int), j37.2))
      (some (false, j37.2))).bind fun g39 =>
    (cond g39.1
      ((asT (txt g39.2 (Value.slice q38.1.a q38.1.n q38.1.c))).bind fun s40 =>
    some (s40, g39.2))
      (some (j37.1, g39.2)) : Option ((ByteArray) × H)).bind fun j41 =>
    (asS (subs 1 (Value.slice x30.a x30.n x30.c) (some (wrapA .i64 (x32 * (16 : Int)))) (some (wrapA .i64 ((wrapA .i64 (x32 + (1 : Int))) * (16 : Int)))))).bind fun s42 =>
    (asT (txt j41.2 (Value.slice s42.a s42.n s42.c))).bind fun s43 =>
    cond (!(s43.toList == j41.1.toList))
      (some (Sum.inl false, j41.2))
      ((cond x31 ((asT (txt (newZ j41.2 5 1 [(Value.int .u8 (0 : Int))] 16) (Value.slice (some ⟨j41.2.next, 0, none⟩) 16 16))).bind fun s44 =>
    some (j41.1.toList == s44.toList, (newZ j41.2 5 1 [(Value.int .u8 (0 : Int))] 16)))
      (some (false, j41.2))).bind fun g45 =>
    corbellaw17_ExtentLays.l1 k n x27 x28 x29 x30 g45.1 (wrapA .i64 (x32 + (1 : Int))) g45.2))
      (some (Sum.inr x31, h33))) := rfl
noncomputable def corbellaw17_ExtentLays.l0 (k : Nat) (n : Nat) : Sl → Int → Sl → Int → (Option Nat) → Int → H → Option ((Unit) × H) :=
  Nat.rec (motive := fun _ => Sl → Int → Sl → Int → (Option Nat) → Int → H → Option ((Unit) × H)) (fun _ _ _ _ _ _ _ => none) (fun _ ih x3 x4 x5 x6 x7 x8 h9 => (cond (decide (x8 < (Int.ofNat x3.n))) (some (decide (x8 < (12 : Int)), h9))
      (some (false, h9))).bind fun g10 =>
    cond g10.1
      ((asP (ixs 1 x3.a x3.n x8)).bind fun p11 =>
    (asI .i64 (ldc g10.2 p11)).bind fun n12 =>
    (corbelhand_Pick.f k n12 (14 : Int) g10.2).bind fun q13 =>
    (asP (ixs 1 x3.a x3.n x8)).bind fun p14 =>
    (asI .i64 (ldc q13.2 p14)).bind fun n15 =>
    (cond ((n15.tmod (11 : Int)) == (10 : Int))
      (some ((15 : Int), q13.2))
      (some ((16 : Int), q13.2)) : Option ((Int) × H)).bind fun j16 =>
    (asP (ixs 1 x3.a x3.n x8)).bind fun p17 =>
    (asI .i64 (ldc j16.2 p17)).bind fun n18 =>
    (corbelhand_Bytes.f k (wrapA .i64 (n18 + (1 : Int))) j16.1 j16.2).bind fun q19 =>
    (mput x7 (Value.int .i64 (wrapA .i64 ((wrapA .i64 ((wrapA .i64 (x6 * (8 : Int))) + q13.1)) - (3 : Int)))) (Value.slice q19.1.a q19.1.n q19.1.c) q19.2).bind fun q20 =>
    ih x3 x4 x5 x6 x7 (wrapA .i64 (x8 + (1 : Int))) q20.2)
      (some ((), g10.2))) n
theorem corbellaw17_ExtentLays.l0_zero (k : Nat) (x3 : Sl) (x4 : Int) (x5 : Sl) (x6 : Int) (x7 : Option Nat) (x8 : Int) (h9 : H) : corbellaw17_ExtentLays.l0 k 0 x3 x4 x5 x6 x7 x8 h9 = none := rfl
theorem corbellaw17_ExtentLays.l0_succ (k n : Nat) (x3 : Sl) (x4 : Int) (x5 : Sl) (x6 : Int) (x7 : Option Nat) (x8 : Int) (h9 : H) : corbellaw17_ExtentLays.l0 k (n + 1) x3 x4 x5 x6 x7 x8 h9 = ((cond (decide (x8 < (Int.ofNat x3.n))) (some (decide (x8 < (12 : Int)), h9))
      (some (false, h9))).bind fun g10 =>
    cond g10.1
      ((asP (ixs 1 x3.a x3.n x8)).bind fun p11 =>
    (asI .i64 (ldc g10.2 p11)).bind fun n12 =>
    (corbelhand_Pick.f k n12 (14 : Int) g10.2).bind fun q13 =>
    (asP (ixs 1 x3.a x3.n x8)).bind fun p14 =>
    (asI .i64 (ldc q13.2 p14)).bind fun n15 =>
    (cond ((n15.tmod (11 : Int)) == (10 : Int))
      (some ((15 : Int), q13.2))
      (some ((16 : Int), q13.2)) : Option ((Int) × H)).bind fun j16 =>
    (asP (ixs 1 x3.a x3.n x8)).bind fun p17 =>
    (asI .i64 (ldc j16.2 p17)).bind fun n18 =>
    (corbelhand_Bytes.f k (wrapA .i64 (n18 + (1 : Int))) j16.1 j16.2).bind fun q19 =>
    (mput x7 (Value.int .i64 (wrapA .i64 ((wrapA .i64 ((wrapA .i64 (x6 * (8 : Int))) + q13.1)) - (3 : Int)))) (Value.slice q19.1.a q19.1.n q19.1.c) q19.2).bind fun q20 =>
    corbellaw17_ExtentLays.l0 k n x3 x4 x5 x6 x7 (wrapA .i64 (x8 + (1 : Int))) q20.2)
      (some ((), g10.2))) := rfl
noncomputable def corbellaw17_ExtentLays.f (k : Nat) (a0 : Int) (a1 : Int) (a2 : Sl) (a3 : Int) (h : H) : Option ((Bool) × H) :=
  (corbelhand_Bytes.f k a0 (128 : Int) h).bind fun q1 =>
    (corbelhand_Pick.f k a1 (30 : Int) q1.2).bind fun q2 =>
    (corbellaw17_ExtentLays.l0 k k a2 a3 q1.1 q2.1 (some q2.2.next) (0 : Int) (q2.2.new (.map [] 0 q2.2.clock))).bind fun w21 =>
    (cond ((a3.tmod (5 : Int)) == (4 : Int))
      ((corbelhand_Pick.f k a3 (128 : Int) w21.2).bind fun q22 =>
    (asS (subs 1 (Value.slice q1.1.a q1.1.n q1.1.c) none (some q22.1))).bind fun s23 =>
    some (s23, q22.2))
      (some (q1.1, w21.2)) : Option ((Sl) × H)).bind fun j24 =>
    (extent_Overlay.f k j24.1 (some q2.2.next) q2.1 j24.2).bind fun q25 =>
    (cond (!true) (some (true, q25.2))
      (some ((Int.ofNat q25.1.n) != (128 : Int), q25.2))).bind fun g26 =>
    cond g26.1
      (some (false, g26.2))
      ((corbellaw17_ExtentLays.l1 k k j24.1 q2.1 (some q2.2.next) q25.1 true (0 : Int) g26.2).bind fun w46 =>
    match w46.1 with
    | .inl r47 => some (r47, w46.2)
    | .inr o48 => (extent_Empty.f k q25.1 w46.2).bind fun q49 =>
    some (q49.1 == o48, q49.2))
noncomputable def corbellaw17_ExtentLays.T (k : Nat) : Tbl := tblOf [⟨22, anyArgs, wr [(.int .i64), (.int .i64)] [.sl] (fun a h => corbelhand_Bytes.f k (a.1) (a.2) h)⟩,
  ⟨19, anyArgs, wr [(.int .i64), (.int .i64)] [(.int .i64)] (fun a h => corbelhand_Pick.f k (a.1) (a.2) h)⟩,
  ⟨23, anyArgs, wr [.sl, .map, (.int .i64)] [.sl] (fun a h => extent_Overlay.f k (a.1) (a.2.1) (a.2.2) h)⟩,
  ⟨18, anyArgs, knownW⟩,
  ⟨24, anyArgs, wr [.sl] [.bool] (fun a h => extent_Empty.f k a h)⟩]
noncomputable def corbellaw17_ExtentLays.an (k : Nat) (p : Nat) : Option Ann := cond (Nat.beq p 8186) (some (.pass [15] (lrun [(9, .sl), (10, (.int .i64)), (11, .map), (15, .sl), (16, .bool), (17, (.int .i64))] (some [(8, .bool)]) [(16, .bool)] 2 (fun a h => corbellaw17_ExtentLays.l1 k k (a.1) (a.2.1) (a.2.2.1) (a.2.2.2.1) (a.2.2.2.2.1) (a.2.2.2.2.2) h))))
  (cond (Nat.beq p 4191387) (some (.join [9, 10, 11, 15, 16, 17] none [(18, .str)]))
  (cond (Nat.beq p 1047845) (some (.join [9, 10, 11, 15, 16, 17] none [(18, .str)]))
  (cond (Nat.beq p 253) (some (.join [10, 11] none [(9, .sl)]))
  (cond (Nat.beq p 250) (some (.pass [3, 9, 10, 11] (lrun [(2, .sl), (3, (.int .i64)), (9, .sl), (10, (.int .i64)), (11, .map), (12, (.int .i64))] none [] 0 (fun a h => corbellaw17_ExtentLays.l0 k k (a.1) (a.2.1) (a.2.2.1) (a.2.2.2.1) (a.2.2.2.2.1) (a.2.2.2.2.2) h))))
  (cond (Nat.beq p 64077) (some (.join [2, 3, 9, 10, 11, 12, 13] none [(14, (.int .i64))]))
  (none))))))
noncomputable def corbellaw17_ExtentLays.body : Code := (Try.f4.body).getD .skip
noncomputable def corbellaw17_ExtentLays.c250 : Code := cat corbellaw17_ExtentLays.body [1, 1, 1, 1, 0, 1, 0, 0]
noncomputable def corbellaw17_ExtentLays.c8186 : Code := cat corbellaw17_ExtentLays.body [1, 1, 1, 1, 1, 1, 1, 1, 1, 0, 1, 0, 0]
set_option maxRecDepth 100000 in
theorem corbellaw17_ExtentLays.TS {C : FuncId → Bool} {X : CallF} (hX : XOk C X) (hK18 : KOk X 18) (k : Nat) : TblS Try.prog C X (corbellaw17_ExtentLays.T k) := by
  refine tblOf_sound ?_
  intro e he
  rcases List.mem_cons.1 he with rfl | he
  · exact wr_told (corbelhand_Bytes.told hX k)
  rcases List.mem_cons.1 he with rfl | he
  · exact wr_told (corbelhand_Pick.told hX k)
  rcases List.mem_cons.1 he with rfl | he
  · exact wr_told (extent_Overlay.told hX k)
  rcases List.mem_cons.1 he with rfl | he
  · exact knownW_told hK18
  rcases List.mem_cons.1 he with rfl | he
  · exact wr_told (extent_Empty.told hX k)
  exact absurd he List.not_mem_nil
set_option maxRecDepth 100000 in
theorem corbellaw17_ExtentLays.l1_pass {C : FuncId → Bool} {X : CallF} (hX : XOk C X) (hK18 : KOk X 18) (k n : Nat) : PassS Try.prog C X 133 (.loop corbellaw17_ExtentLays.c8186) (lrun [(9, .sl), (10, (.int .i64)), (11, .map), (15, .sl), (16, .bool), (17, (.int .i64))] (some [(8, .bool)]) [(16, .bool)] 2 (fun a h => corbellaw17_ExtentLays.l1 k n (a.1) (a.2.1) (a.2.2.1) (a.2.2.2.1) (a.2.2.2.2.1) (a.2.2.2.2.2) h)) :=
  loop_pass (ins := [(9, .sl), (10, (.int .i64)), (11, .map), (15, .sl), (16, .bool), (17, (.int .i64))]) (rets := (some [(8, .bool)])) (outs := [(16, .bool)]) (id := 2) (tbl := corbellaw17_ExtentLays.T k) (an := corbellaw17_ExtentLays.an k) (pb := 16372) (corbellaw17_ExtentLays.TS hX hK18 k) (fun n => (fun a h => corbellaw17_ExtentLays.l1 k n (a.1) (a.2.1) (a.2.2.1) (a.2.2.2.1) (a.2.2.2.2.1) (a.2.2.2.2.2) h)) (fun a h => rfl) (fun n a h => by kernel_rfl)
    (by
      have e : need (corbellaw17_ExtentLays.an k) corbellaw17_ExtentLays.c8186 16372 = [] := by kernel_rfl
      rw [e]; intro q hq; cases hq) n
set_option maxRecDepth 100000 in
theorem corbellaw17_ExtentLays.l0_pass {C : FuncId → Bool} {X : CallF} (hX : XOk C X) (hK18 : KOk X 18) (k n : Nat) : PassS Try.prog C X 133 (.loop corbellaw17_ExtentLays.c250) (lrun [(2, .sl), (3, (.int .i64)), (9, .sl), (10, (.int .i64)), (11, .map), (12, (.int .i64))] none [] 0 (fun a h => corbellaw17_ExtentLays.l0 k n (a.1) (a.2.1) (a.2.2.1) (a.2.2.2.1) (a.2.2.2.2.1) (a.2.2.2.2.2) h)) :=
  loop_pass (ins := [(2, .sl), (3, (.int .i64)), (9, .sl), (10, (.int .i64)), (11, .map), (12, (.int .i64))]) (rets := none) (outs := []) (id := 0) (tbl := corbellaw17_ExtentLays.T k) (an := corbellaw17_ExtentLays.an k) (pb := 500) (corbellaw17_ExtentLays.TS hX hK18 k) (fun n => (fun a h => corbellaw17_ExtentLays.l0 k n (a.1) (a.2.1) (a.2.2.1) (a.2.2.2.1) (a.2.2.2.2.1) (a.2.2.2.2.2) h)) (fun a h => rfl) (fun n a h => by kernel_rfl)
    (by
      have e : need (corbellaw17_ExtentLays.an k) corbellaw17_ExtentLays.c250 500 = [] := by kernel_rfl
      rw [e]; intro q hq; cases hq) n
set_option maxRecDepth 100000 in
theorem corbellaw17_ExtentLays.eq (k : Nat) (a : RT [(.int .i64), (.int .i64), .sl, (.int .i64)]) (h : H) : (fun a h => corbellaw17_ExtentLays.f k (a.1) (a.2.1) (a.2.2.1) (a.2.2.2) h) a h = kfun Try.prog (corbellaw17_ExtentLays.T k) (corbellaw17_ExtentLays.an k) (RT [.bool] × H) Try.f4 (encL [(.int .i64), (.int .i64), .sl, (.int .i64)] a) h (fun vs h' => (decL [.bool] vs).bind fun x => some (x, h')) := by kernel_rfl
set_option maxRecDepth 100000 in
theorem corbellaw17_ExtentLays.told {C : FuncId → Bool} {X : CallF} (hX : XOk C X) (hK18 : KOk X 18) (k : Nat) : Den.Told Try.prog C X 4 [(.int .i64), (.int .i64), .sl, (.int .i64)] [.bool] (fun a h => corbellaw17_ExtentLays.f k (a.1) (a.2.1) (a.2.2.1) (a.2.2.2) h) :=
  told_of fun a h q e => fn_of (c := corbellaw17_ExtentLays.body) (corbellaw17_ExtentLays.TS hX hK18 k) Try.func4 (by kernel_rfl) (hX.no 4 _ h (by decide))
    (by
      have e : need (corbellaw17_ExtentLays.an k) corbellaw17_ExtentLays.body 1 = [(Code.loop corbellaw17_ExtentLays.c250, lrun [(2, .sl), (3, (.int .i64)), (9, .sl), (10, (.int .i64)), (11, .map), (12, (.int .i64))] none [] 0 (fun a h => corbellaw17_ExtentLays.l0 k k (a.1) (a.2.1) (a.2.2.1) (a.2.2.2.1) (a.2.2.2.2.1) (a.2.2.2.2.2) h)), (Code.loop corbellaw17_ExtentLays.c8186, lrun [(9, .sl), (10, (.int .i64)), (11, .map), (15, .sl), (16, .bool), (17, (.int .i64))] (some [(8, .bool)]) [(16, .bool)] 2 (fun a h => corbellaw17_ExtentLays.l1 k k (a.1) (a.2.1) (a.2.2.1) (a.2.2.2.1) (a.2.2.2.2.1) (a.2.2.2.2.2) h))] := by kernel_rfl
      rw [e]; intro q hq
      rcases List.mem_cons.1 hq with rfl | hq
      · exact corbellaw17_ExtentLays.l0_pass hX hK18 k k
      rcases List.mem_cons.1 hq with rfl | hq
      · exact corbellaw17_ExtentLays.l1_pass hX hK18 k k
      cases hq)
    ((corbellaw17_ExtentLays.eq k a h).symm.trans e)
end Go.Proofs.Ytfenkpghcbohdaa.Fwd
