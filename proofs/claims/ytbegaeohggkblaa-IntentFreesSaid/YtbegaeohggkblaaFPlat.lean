/- Forward runs of functions of the program, printed by a program of this session: each function on plain values and memory, and that the code comes to it. No condition. -/
import Derived.Test.YtbegaeohggkblaaDenZ
import Derived.KernelRfl
namespace Go.Proofs.Ytbegaeohggkblaa.Fwd
open Go Den
set_option linter.unusedVariables false
/-! ### corbel/corbelhand.Pick -/
noncomputable def corbelhand_Pick.f (k : Nat) (a0 : Int) (a1 : Int) (h : H) : Option ((Int) × H) :=
  (asI .i64 (intA .rem .i64 a0 a1)).bind fun n1 =>
    (cond (decide (n1 < (0 : Int)))
      (some (wrapA .i64 (n1 + a1), h))
      (some (n1, h)) : Option ((Int) × H)).bind fun j2 =>
    some (j2.1, j2.2)
noncomputable def corbelhand_Pick.T (k : Nat) : Tbl := tblOf []
noncomputable def corbelhand_Pick.an (k : Nat) (p : Nat) : Option Ann := cond (Nat.beq p 29) (some (.join [] none [(0, (.int .i64))]))
  (none)
noncomputable def corbelhand_Pick.body : Code := (Try.f17.body).getD .skip
set_option maxRecDepth 100000 in
theorem corbelhand_Pick.TS {C : FuncId → Bool} {X : CallF} (hX : XOk C X) (k : Nat) : TblS Try.prog C X (corbelhand_Pick.T k) := by
  refine tblOf_sound ?_
  intro e he
  exact absurd he List.not_mem_nil
set_option maxRecDepth 100000 in
theorem corbelhand_Pick.eq (k : Nat) (a : RT [(.int .i64), (.int .i64)]) (h : H) : (fun a h => corbelhand_Pick.f k (a.1) (a.2) h) a h = kfun Try.prog (corbelhand_Pick.T k) (corbelhand_Pick.an k) (RT [(.int .i64)] × H) Try.f17 (encL [(.int .i64), (.int .i64)] a) h (fun vs h' => (decL [(.int .i64)] vs).bind fun x => some (x, h')) := by kernel_rfl
set_option maxRecDepth 100000 in
theorem corbelhand_Pick.told {C : FuncId → Bool} {X : CallF} (hX : XOk C X) (k : Nat) : Den.Told Try.prog C X 17 [(.int .i64), (.int .i64)] [(.int .i64)] (fun a h => corbelhand_Pick.f k (a.1) (a.2) h) :=
  told_of fun a h q e => fn_of (c := corbelhand_Pick.body) (corbelhand_Pick.TS hX k) Try.func17 (by kernel_rfl) (hX.no 17 _ h (by decide))
    (by
      have e : need (corbelhand_Pick.an k) corbelhand_Pick.body 1 = [] := by kernel_rfl
      rw [e]; intro q hq; cases hq)
    ((corbelhand_Pick.eq k a h).symm.trans e)
/-! ### corbel/platter.blank -/
noncomputable def platter_blank.l0 (k : Nat) (n : Nat) : Int → Sl → Int → H → Option ((Sl) × H) :=
  Nat.rec (motive := fun _ => Int → Sl → Int → H → Option ((Sl) × H)) (fun _ _ _ _ => none) (fun _ ih x1 x2 x3 h4 => cond (decide (x3 < x1))
      ((asS2 (apv 22 1 24 (Value.slice x2.a x2.n x2.c) (Value.slice (some ⟨(newZ h4 5 1 [(Value.int .u8 (0 : Int))] 160).next, 0, none⟩) 1 1) (newR (newZ h4 5 1 [(Value.int .u8 (0 : Int))] 160) 22 1 [(Value.slice (some ⟨h4.next, 0, none⟩) 160 160)]))).bind fun q5 =>
    ih x1 q5.1 (wrapA .i64 (x3 + (1 : Int))) q5.2)
      (some (x2, h4))) n
theorem platter_blank.l0_zero (k : Nat) (x1 : Int) (x2 : Sl) (x3 : Int) (h4 : H) : platter_blank.l0 k 0 x1 x2 x3 h4 = none := rfl
theorem platter_blank.l0_succ (k n : Nat) (x1 : Int) (x2 : Sl) (x3 : Int) (h4 : H) : platter_blank.l0 k (n + 1) x1 x2 x3 h4 = (cond (decide (x3 < x1))
      ((asS2 (apv 22 1 24 (Value.slice x2.a x2.n x2.c) (Value.slice (some ⟨(newZ h4 5 1 [(Value.int .u8 (0 : Int))] 160).next, 0, none⟩) 1 1) (newR (newZ h4 5 1 [(Value.int .u8 (0 : Int))] 160) 22 1 [(Value.slice (some ⟨h4.next, 0, none⟩) 160 160)]))).bind fun q5 =>
    platter_blank.l0 k n x1 q5.1 (wrapA .i64 (x3 + (1 : Int))) q5.2)
      (some (x2, h4))) := rfl
noncomputable def platter_blank.f (k : Nat) (a0 : Int) (h : H) : Option ((Sl) × H) :=
  (platter_blank.l0 k k a0 (⟨none, 0, 0⟩ : Sl) (0 : Int) h).bind fun w6 =>
    some (w6.1, w6.2)
noncomputable def platter_blank.T (k : Nat) : Tbl := tblOf []
noncomputable def platter_blank.an (k : Nat) (p : Nat) : Option Ann := cond (Nat.beq p 58) (some (.pass [] (lrun [(4, (.int .i64)), (3, .sl), (5, (.int .i64))] none [(3, .sl)] 0 (fun a h => platter_blank.l0 k k (a.1) (a.2.1) (a.2.2) h))))
  (none)
noncomputable def platter_blank.body : Code := (Try.f53.body).getD .skip
noncomputable def platter_blank.c58 : Code := cat platter_blank.body [1, 1, 0, 1, 0, 0]
set_option maxRecDepth 100000 in
theorem platter_blank.TS {C : FuncId → Bool} {X : CallF} (hX : XOk C X) (k : Nat) : TblS Try.prog C X (platter_blank.T k) := by
  refine tblOf_sound ?_
  intro e he
  exact absurd he List.not_mem_nil
set_option maxRecDepth 100000 in
theorem platter_blank.l0_pass {C : FuncId → Bool} {X : CallF} (hX : XOk C X) (k n : Nat) : PassS Try.prog C X 13 (.loop platter_blank.c58) (lrun [(4, (.int .i64)), (3, .sl), (5, (.int .i64))] none [(3, .sl)] 0 (fun a h => platter_blank.l0 k n (a.1) (a.2.1) (a.2.2) h)) :=
  loop_pass (ins := [(4, (.int .i64)), (3, .sl), (5, (.int .i64))]) (rets := none) (outs := [(3, .sl)]) (id := 0) (tbl := platter_blank.T k) (an := platter_blank.an k) (pb := 116) (platter_blank.TS hX k) (fun n => (fun a h => platter_blank.l0 k n (a.1) (a.2.1) (a.2.2) h)) (fun a h => rfl) (fun n a h => by kernel_rfl)
    (by
      have e : need (platter_blank.an k) platter_blank.c58 116 = [] := by kernel_rfl
      rw [e]; intro q hq; cases hq) n
set_option maxRecDepth 100000 in
theorem platter_blank.eq (k : Nat) (a : RT [(.int .i64)]) (h : H) : (fun a h => platter_blank.f k a h) a h = kfun Try.prog (platter_blank.T k) (platter_blank.an k) (RT [.sl] × H) Try.f53 (encL [(.int .i64)] a) h (fun vs h' => (decL [.sl] vs).bind fun x => some (x, h')) := by kernel_rfl
set_option maxRecDepth 100000 in
theorem platter_blank.told {C : FuncId → Bool} {X : CallF} (hX : XOk C X) (k : Nat) : Den.Told Try.prog C X 53 [(.int .i64)] [.sl] (fun a h => platter_blank.f k a h) :=
  told_of fun a h q e => fn_of (c := platter_blank.body) (platter_blank.TS hX k) Try.func53 (by kernel_rfl) (hX.no 53 _ h (by decide))
    (by
      have e : need (platter_blank.an k) platter_blank.body 1 = [(Code.loop platter_blank.c58, lrun [(4, (.int .i64)), (3, .sl), (5, (.int .i64))] none [(3, .sl)] 0 (fun a h => platter_blank.l0 k k (a.1) (a.2.1) (a.2.2) h))] := by kernel_rfl
      rw [e]; intro q hq
      rcases List.mem_cons.1 hq with rfl | hq
      · exact platter_blank.l0_pass hX k k
      cases hq)
    ((platter_blank.eq k a h).symm.trans e)
/-! ### corbel/platter.New -/
noncomputable def platter_New.f (k : Nat) (a0 : Int) (h : H) : Option ((Option Addr) × H) :=
  (platter_blank.f k (cond (decide ((cond (decide ((1000 : Int) < a0)) (1000 : Int) a0) > (1 : Int))) (cond (decide ((1000 : Int) < a0)) (1000 : Int) a0) (1 : Int)) h).bind fun q1 =>
    (platter_blank.f k (cond (decide ((cond (decide ((1000 : Int) < a0)) (1000 : Int) a0) > (1 : Int))) (cond (decide ((1000 : Int) < a0)) (1000 : Int) a0) (1 : Int)) q1.2).bind fun q2 =>
    some ((some ⟨q2.2.next, 0, none⟩), (newR q2.2 89 4 [(Value.slice q1.1.a q1.1.n q1.1.c), (Value.slice q2.1.a q2.1.n q2.1.c), (Value.slice none 0 0), (Value.int .i64 (0 : Int))]))
noncomputable def platter_New.T (k : Nat) : Tbl := tblOf [⟨53, anyArgs, wr [(.int .i64)] [.sl] (fun a h => platter_blank.f k a h)⟩]
noncomputable def platter_New.an (k : Nat) (p : Nat) : Option Ann := none
noncomputable def platter_New.body : Code := (Try.f24.body).getD .skip
set_option maxRecDepth 100000 in
theorem platter_New.TS {C : FuncId → Bool} {X : CallF} (hX : XOk C X) (k : Nat) : TblS Try.prog C X (platter_New.T k) := by
  refine tblOf_sound ?_
  intro e he
  rcases List.mem_cons.1 he with rfl | he
  · exact wr_told (platter_blank.told hX k)
  exact absurd he List.not_mem_nil
set_option maxRecDepth 100000 in
theorem platter_New.eq (k : Nat) (a : RT [(.int .i64)]) (h : H) : (fun a h => platter_New.f k a h) a h = kfun Try.prog (platter_New.T k) (platter_New.an k) (RT [.ptr] × H) Try.f24 (encL [(.int .i64)] a) h (fun vs h' => (decL [.ptr] vs).bind fun x => some (x, h')) := by kernel_rfl
set_option maxRecDepth 100000 in
theorem platter_New.told {C : FuncId → Bool} {X : CallF} (hX : XOk C X) (k : Nat) : Den.Told Try.prog C X 24 [(.int .i64)] [.ptr] (fun a h => platter_New.f k a h) :=
  told_of fun a h q e => fn_of (c := platter_New.body) (platter_New.TS hX k) Try.func24 (by kernel_rfl) (hX.no 24 _ h (by decide))
    (by
      have e : need (platter_New.an k) platter_New.body 1 = [] := by kernel_rfl
      rw [e]; intro q hq; cases hq)
    ((platter_New.eq k a h).symm.trans e)
/-! ### (*corbel/platter.Platter).has -/
noncomputable def platter_Platter_has.f (k : Nat) (a0 : Option Addr) (a1 : Int) (h : H) : Option ((Bool) × H) :=
  (cond (decide (a1 ≥ (0 : Int))) ((asP (nilA (Value.pointer a0))).bind fun p1 =>
    (asP (fadd 1 p1)).bind fun p2 =>
    (asS (ldc h p2)).bind fun s3 =>
    some (decide (a1 < (Int.ofNat s3.n)), h))
      (some (false, h))).bind fun g4 =>
    some (g4.1, g4.2)
noncomputable def platter_Platter_has.T (k : Nat) : Tbl := tblOf []
noncomputable def platter_Platter_has.an (k : Nat) (p : Nat) : Option Ann := none
noncomputable def platter_Platter_has.body : Code := (Try.f54.body).getD .skip
set_option maxRecDepth 100000 in
theorem platter_Platter_has.TS {C : FuncId → Bool} {X : CallF} (hX : XOk C X) (k : Nat) : TblS Try.prog C X (platter_Platter_has.T k) := by
  refine tblOf_sound ?_
  intro e he
  exact absurd he List.not_mem_nil
set_option maxRecDepth 100000 in
theorem platter_Platter_has.eq (k : Nat) (a : RT [.ptr, (.int .i64)]) (h : H) : (fun a h => platter_Platter_has.f k (a.1) (a.2) h) a h = kfun Try.prog (platter_Platter_has.T k) (platter_Platter_has.an k) (RT [.bool] × H) Try.f54 (encL [.ptr, (.int .i64)] a) h (fun vs h' => (decL [.bool] vs).bind fun x => some (x, h')) := by kernel_rfl
set_option maxRecDepth 100000 in
theorem platter_Platter_has.told {C : FuncId → Bool} {X : CallF} (hX : XOk C X) (k : Nat) : Den.Told Try.prog C X 54 [.ptr, (.int .i64)] [.bool] (fun a h => platter_Platter_has.f k (a.1) (a.2) h) :=
  told_of fun a h q e => fn_of (c := platter_Platter_has.body) (platter_Platter_has.TS hX k) Try.func54 (by kernel_rfl) (hX.no 54 _ h (by decide))
    (by
      have e : need (platter_Platter_has.an k) platter_Platter_has.body 1 = [] := by kernel_rfl
      rw [e]; intro q hq; cases hq)
    ((platter_Platter_has.eq k a h).symm.trans e)
/-! ### slices.Clone[[]byte,byte] -/
noncomputable def slices_Clone_byte_byte.f (k : Nat) (a0 : Sl) (h : H) : Option ((Sl) × H) :=
  (asB (binO1 Try.prog .eql 22 (Value.slice a0.a a0.n a0.c) (Value.slice none 0 0))).bind fun b1 =>
    cond b1
      (some ((⟨none, 0, 0⟩ : Sl), h))
      ((asS2 (apv 5 1 1 (Value.slice (some ⟨h.next, 0, none⟩) 0 0) (Value.slice a0.a a0.n a0.c) (newR h 5 1 []))).bind fun q2 =>
    some (q2.1, q2.2))
noncomputable def slices_Clone_byte_byte.T (k : Nat) : Tbl := tblOf []
noncomputable def slices_Clone_byte_byte.an (k : Nat) (p : Nat) : Option Ann := none
noncomputable def slices_Clone_byte_byte.body : Code := (Try.f51.body).getD .skip
set_option maxRecDepth 100000 in
theorem slices_Clone_byte_byte.TS {C : FuncId → Bool} {X : CallF} (hX : XOk C X) (k : Nat) : TblS Try.prog C X (slices_Clone_byte_byte.T k) := by
  refine tblOf_sound ?_
  intro e he
  exact absurd he List.not_mem_nil
set_option maxRecDepth 100000 in
theorem slices_Clone_byte_byte.eq (k : Nat) (a : RT [.sl]) (h : H) : (fun a h => slices_Clone_byte_byte.f k a h) a h = kfun Try.prog (slices_Clone_byte_byte.T k) (slices_Clone_byte_byte.an k) (RT [.sl] × H) Try.f51 (encL [.sl] a) h (fun vs h' => (decL [.sl] vs).bind fun x => some (x, h')) := by kernel_rfl
set_option maxRecDepth 100000 in
theorem slices_Clone_byte_byte.told {C : FuncId → Bool} {X : CallF} (hX : XOk C X) (k : Nat) : Den.Told Try.prog C X 51 [.sl] [.sl] (fun a h => slices_Clone_byte_byte.f k a h) :=
  told_of fun a h q e => fn_of (c := slices_Clone_byte_byte.body) (slices_Clone_byte_byte.TS hX k) Try.func51 (by kernel_rfl) (hX.no 51 _ h (by decide))
    (by
      have e : need (slices_Clone_byte_byte.an k) slices_Clone_byte_byte.body 1 = [] := by kernel_rfl
      rw [e]; intro q hq; cases hq)
    ((slices_Clone_byte_byte.eq k a h).symm.trans e)
/-! ### (*corbel/platter.Platter).Write -/
noncomputable def platter_Platter_Write.f (k : Nat) (a0 : Option Addr) (a1 : Int) (a2 : Sl) (h : H) : Option ((Bool) × H) :=
  (platter_Platter_has.f k a0 a1 h).bind fun q1 =>
    (cond (!q1.1) (some (true, q1.2))
      (some ((Int.ofNat a2.n) != (160 : Int), q1.2))).bind fun g2 =>
    cond g2.1
      (some (false, g2.2))
      ((slices_Clone_byte_byte.f k a2 g2.2).bind fun q3 =>
    (asP (nilA (Value.pointer a0))).bind fun p4 =>
    (asP (fadd 1 p4)).bind fun p5 =>
    (asS (ldc q3.2 p5)).bind fun s6 =>
    (asP (ixs 1 s6.a s6.n a1)).bind fun p7 =>
    (stv 1 q3.2 p7 [(Value.slice q3.1.a q3.1.n q3.1.c)]).bind fun q8 =>
    (asP (nilA (Value.pointer a0))).bind fun p9 =>
    (asP (fadd 2 p9)).bind fun p10 =>
    (asS (ldc q8.2 p10)).bind fun s11 =>
    (asS2 (apv 92 2 32 (Value.slice s11.a s11.n s11.c) (Value.slice (some ⟨q8.2.next, 0, none⟩) 1 1) (newR q8.2 92 2 [(Value.int .i64 a1), (Value.slice q3.1.a q3.1.n q3.1.c)]))).bind fun q12 =>
    (asP (nilA (Value.pointer a0))).bind fun p13 =>
    (asP (fadd 2 p13)).bind fun p14 =>
    (stv 1 q12.2 p14 [(Value.slice q12.1.a q12.1.n q12.1.c)]).bind fun q15 =>
    (asP (nilA (Value.pointer a0))).bind fun p16 =>
    (asP (fadd 3 p16)).bind fun p17 =>
    (asI .i64 (ldc q15.2 p17)).bind fun n18 =>
    (asP (nilA (Value.pointer a0))).bind fun p19 =>
    (asP (fadd 3 p19)).bind fun p20 =>
    (stv 1 q15.2 p20 [(Value.int .i64 (wrapA .i64 (n18 + (1 : Int))))]).bind fun q21 =>
    some (true, q21.2))
noncomputable def platter_Platter_Write.T (k : Nat) : Tbl := tblOf [⟨54, anyArgs, wr [.ptr, (.int .i64)] [.bool] (fun a h => platter_Platter_has.f k (a.1) (a.2) h)⟩,
  ⟨51, anyArgs, wr [.sl] [.sl] (fun a h => slices_Clone_byte_byte.f k a h)⟩]
noncomputable def platter_Platter_Write.an (k : Nat) (p : Nat) : Option Ann := none
noncomputable def platter_Platter_Write.body : Code := (Try.f26.body).getD .skip
set_option maxRecDepth 100000 in
theorem platter_Platter_Write.TS {C : FuncId → Bool} {X : CallF} (hX : XOk C X) (k : Nat) : TblS Try.prog C X (platter_Platter_Write.T k) := by
  refine tblOf_sound ?_
  intro e he
  rcases List.mem_cons.1 he with rfl | he
  · exact wr_told (platter_Platter_has.told hX k)
  rcases List.mem_cons.1 he with rfl | he
  · exact wr_told (slices_Clone_byte_byte.told hX k)
  exact absurd he List.not_mem_nil
set_option maxRecDepth 100000 in
theorem platter_Platter_Write.eq (k : Nat) (a : RT [.ptr, (.int .i64), .sl]) (h : H) : (fun a h => platter_Platter_Write.f k (a.1) (a.2.1) (a.2.2) h) a h = kfun Try.prog (platter_Platter_Write.T k) (platter_Platter_Write.an k) (RT [.bool] × H) Try.f26 (encL [.ptr, (.int .i64), .sl] a) h (fun vs h' => (decL [.bool] vs).bind fun x => some (x, h')) := by kernel_rfl
set_option maxRecDepth 100000 in
theorem platter_Platter_Write.told {C : FuncId → Bool} {X : CallF} (hX : XOk C X) (k : Nat) : Den.Told Try.prog C X 26 [.ptr, (.int .i64), .sl] [.bool] (fun a h => platter_Platter_Write.f k (a.1) (a.2.1) (a.2.2) h) :=
  told_of fun a h q e => fn_of (c := platter_Platter_Write.body) (platter_Platter_Write.TS hX k) Try.func26 (by kernel_rfl) (hX.no 26 _ h (by decide))
    (by
      have e : need (platter_Platter_Write.an k) platter_Platter_Write.body 1 = [] := by kernel_rfl
      rw [e]; intro q hq; cases hq)
    ((platter_Platter_Write.eq k a h).symm.trans e)
/-! ### slices.Clone[[][]byte,[]byte] -/
noncomputable def slices_Clone_byte_byte_2.f (k : Nat) (a0 : Sl) (h : H) : Option ((Sl) × H) :=
  (asB (binO1 Try.prog .eql 85 (Value.slice a0.a a0.n a0.c) (Value.slice none 0 0))).bind fun b1 =>
    cond b1
      (some ((⟨none, 0, 0⟩ : Sl), h))
      ((asS2 (apv 22 1 24 (Value.slice (some ⟨h.next, 0, none⟩) 0 0) (Value.slice a0.a a0.n a0.c) (newR h 22 1 []))).bind fun q2 =>
    some (q2.1, q2.2))
noncomputable def slices_Clone_byte_byte_2.T (k : Nat) : Tbl := tblOf []
noncomputable def slices_Clone_byte_byte_2.an (k : Nat) (p : Nat) : Option Ann := none
noncomputable def slices_Clone_byte_byte_2.body : Code := (Try.f55.body).getD .skip
set_option maxRecDepth 100000 in
theorem slices_Clone_byte_byte_2.TS {C : FuncId → Bool} {X : CallF} (hX : XOk C X) (k : Nat) : TblS Try.prog C X (slices_Clone_byte_byte_2.T k) := by
  refine tblOf_sound ?_
  intro e he
  exact absurd he List.not_mem_nil
set_option maxRecDepth 100000 in
theorem slices_Clone_byte_byte_2.eq (k : Nat) (a : RT [.sl]) (h : H) : (fun a h => slices_Clone_byte_byte_2.f k a h) a h = kfun Try.prog (slices_Clone_byte_byte_2.T k) (slices_Clone_byte_byte_2.an k) (RT [.sl] × H) Try.f55 (encL [.sl] a) h (fun vs h' => (decL [.sl] vs).bind fun x => some (x, h')) := by kernel_rfl
set_option maxRecDepth 100000 in
theorem slices_Clone_byte_byte_2.told {C : FuncId → Bool} {X : CallF} (hX : XOk C X) (k : Nat) : Den.Told Try.prog C X 55 [.sl] [.sl] (fun a h => slices_Clone_byte_byte_2.f k a h) :=
  told_of fun a h q e => fn_of (c := slices_Clone_byte_byte_2.body) (slices_Clone_byte_byte_2.TS hX k) Try.func55 (by kernel_rfl) (hX.no 55 _ h (by decide))
    (by
      have e : need (slices_Clone_byte_byte_2.an k) slices_Clone_byte_byte_2.body 1 = [] := by kernel_rfl
      rw [e]; intro q hq; cases hq)
    ((slices_Clone_byte_byte_2.eq k a h).symm.trans e)
/-! ### (*corbel/platter.Platter).Flush -/
noncomputable def platter_Platter_Flush.f (k : Nat) (a0 : Option Addr) (h : H) : Option ((Unit) × H) :=
  (asP (nilA (Value.pointer a0))).bind fun p1 =>
    (asP (fadd 1 p1)).bind fun p2 =>
    (asS (ldc h p2)).bind fun s3 =>
    (slices_Clone_byte_byte_2.f k s3 h).bind fun q4 =>
    (asP (nilA (Value.pointer a0))).bind fun p5 =>
    (asP (fadd 0 p5)).bind fun p6 =>
    (stv 1 q4.2 p6 [(Value.slice q4.1.a q4.1.n q4.1.c)]).bind fun q7 =>
    (asP (nilA (Value.pointer a0))).bind fun p8 =>
    (asP (fadd 2 p8)).bind fun p9 =>
    (stv 1 q7.2 p9 [(Value.slice none 0 0)]).bind fun q10 =>
    some ((), q10.2)
noncomputable def platter_Platter_Flush.T (k : Nat) : Tbl := tblOf [⟨55, anyArgs, wr [.sl] [.sl] (fun a h => slices_Clone_byte_byte_2.f k a h)⟩]
noncomputable def platter_Platter_Flush.an (k : Nat) (p : Nat) : Option Ann := none
noncomputable def platter_Platter_Flush.body : Code := (Try.f28.body).getD .skip
set_option maxRecDepth 100000 in
theorem platter_Platter_Flush.TS {C : FuncId → Bool} {X : CallF} (hX : XOk C X) (k : Nat) : TblS Try.prog C X (platter_Platter_Flush.T k) := by
  refine tblOf_sound ?_
  intro e he
  rcases List.mem_cons.1 he with rfl | he
  · exact wr_told (slices_Clone_byte_byte_2.told hX k)
  exact absurd he List.not_mem_nil
set_option maxRecDepth 100000 in
theorem platter_Platter_Flush.eq (k : Nat) (a : RT [.ptr]) (h : H) : (fun a h => platter_Platter_Flush.f k a h) a h = kfun Try.prog (platter_Platter_Flush.T k) (platter_Platter_Flush.an k) (RT [] × H) Try.f28 (encL [.ptr] a) h (fun vs h' => (decL [] vs).bind fun x => some (x, h')) := by kernel_rfl
set_option maxRecDepth 100000 in
theorem platter_Platter_Flush.told {C : FuncId → Bool} {X : CallF} (hX : XOk C X) (k : Nat) : Den.Told Try.prog C X 28 [.ptr] [] (fun a h => platter_Platter_Flush.f k a h) :=
  told_of fun a h q e => fn_of (c := platter_Platter_Flush.body) (platter_Platter_Flush.TS hX k) Try.func28 (by kernel_rfl) (hX.no 28 _ h (by decide))
    (by
      have e : need (platter_Platter_Flush.an k) platter_Platter_Flush.body 1 = [] := by kernel_rfl
      rw [e]; intro q hq; cases hq)
    ((platter_Platter_Flush.eq k a h).symm.trans e)
/-! ### slices.Index[[]int,int] -/
noncomputable def slices_Index_int_int.l0 (k : Nat) (n : Nat) : Sl → Int → Int → Int → H → Option (((Int) ⊕ (Unit)) × H) :=
  Nat.rec (motive := fun _ => Sl → Int → Int → Int → H → Option (((Int) ⊕ (Unit)) × H)) (fun _ _ _ _ _ => none) (fun _ ih x1 x2 x3 x4 h5 => cond (decide (x4 < x3))
      ((asP (ixs 1 x1.a x1.n x4)).bind fun p6 =>
    (asI .i64 (ldc h5 p6)).bind fun n7 =>
    cond (x2 == n7)
      (some (Sum.inl x4, h5))
      (ih x1 x2 x3 (wrapA .i64 (x4 + (1 : Int))) h5))
      (some (Sum.inr (), h5))) n
theorem slices_Index_int_int.l0_zero (k : Nat) (x1 : Sl) (x2 : Int) (x3 : Int) (x4 : Int) (h5 : H) : slices_Index_int_int.l0 k 0 x1 x2 x3 x4 h5 = none := rfl
theorem slices_Index_int_int.l0_succ (k n : Nat) (x1 : Sl) (x2 : Int) (x3 : Int) (x4 : Int) (h5 : H) : slices_Index_int_int.l0 k (n + 1) x1 x2 x3 x4 h5 = (cond (decide (x4 < x3))
      ((asP (ixs 1 x1.a x1.n x4)).bind fun p6 =>
    (asI .i64 (ldc h5 p6)).bind fun n7 =>
    cond (x2 == n7)
      (some (Sum.inl x4, h5))
      (slices_Index_int_int.l0 k n x1 x2 x3 (wrapA .i64 (x4 + (1 : Int))) h5))
      (some (Sum.inr (), h5))) := rfl
noncomputable def slices_Index_int_int.f (k : Nat) (a0 : Sl) (a1 : Int) (h : H) : Option ((Int) × H) :=
  (slices_Index_int_int.l0 k k a0 a1 (Int.ofNat a0.n) (0 : Int) h).bind fun w8 =>
    match w8.1 with
    | .inl r9 => some (r9, w8.2)
    | .inr o10 => some ((-1 : Int), w8.2)
noncomputable def slices_Index_int_int.T (k : Nat) : Tbl := tblOf []
noncomputable def slices_Index_int_int.an (k : Nat) (p : Nat) : Option Ann := cond (Nat.beq p 26) (some (.pass [] (lrun [(0, .sl), (1, (.int .i64)), (7, (.int .i64)), (8, (.int .i64))] (some [(4, (.int .i64))]) [] 0 (fun a h => slices_Index_int_int.l0 k k (a.1) (a.2.1) (a.2.2.1) (a.2.2.2) h))))
  (none)
noncomputable def slices_Index_int_int.body : Code := (Try.f69.body).getD .skip
noncomputable def slices_Index_int_int.c26 : Code := cat slices_Index_int_int.body [1, 0, 1, 0, 0]
set_option maxRecDepth 100000 in
theorem slices_Index_int_int.TS {C : FuncId → Bool} {X : CallF} (hX : XOk C X) (k : Nat) : TblS Try.prog C X (slices_Index_int_int.T k) := by
  refine tblOf_sound ?_
  intro e he
  exact absurd he List.not_mem_nil
set_option maxRecDepth 100000 in
theorem slices_Index_int_int.l0_pass {C : FuncId → Bool} {X : CallF} (hX : XOk C X) (k n : Nat) : PassS Try.prog C X 19 (.loop slices_Index_int_int.c26) (lrun [(0, .sl), (1, (.int .i64)), (7, (.int .i64)), (8, (.int .i64))] (some [(4, (.int .i64))]) [] 0 (fun a h => slices_Index_int_int.l0 k n (a.1) (a.2.1) (a.2.2.1) (a.2.2.2) h)) :=
  loop_pass (ins := [(0, .sl), (1, (.int .i64)), (7, (.int .i64)), (8, (.int .i64))]) (rets := (some [(4, (.int .i64))])) (outs := []) (id := 0) (tbl := slices_Index_int_int.T k) (an := slices_Index_int_int.an k) (pb := 52) (slices_Index_int_int.TS hX k) (fun n => (fun a h => slices_Index_int_int.l0 k n (a.1) (a.2.1) (a.2.2.1) (a.2.2.2) h)) (fun a h => rfl) (fun n a h => by kernel_rfl)
    (by
      have e : need (slices_Index_int_int.an k) slices_Index_int_int.c26 52 = [] := by kernel_rfl
      rw [e]; intro q hq; cases hq) n
set_option maxRecDepth 100000 in
theorem slices_Index_int_int.eq (k : Nat) (a : RT [.sl, (.int .i64)]) (h : H) : (fun a h => slices_Index_int_int.f k (a.1) (a.2) h) a h = kfun Try.prog (slices_Index_int_int.T k) (slices_Index_int_int.an k) (RT [(.int .i64)] × H) Try.f69 (encL [.sl, (.int .i64)] a) h (fun vs h' => (decL [(.int .i64)] vs).bind fun x => some (x, h')) := by kernel_rfl
set_option maxRecDepth 100000 in
theorem slices_Index_int_int.told {C : FuncId → Bool} {X : CallF} (hX : XOk C X) (k : Nat) : Den.Told Try.prog C X 69 [.sl, (.int .i64)] [(.int .i64)] (fun a h => slices_Index_int_int.f k (a.1) (a.2) h) :=
  told_of fun a h q e => fn_of (c := slices_Index_int_int.body) (slices_Index_int_int.TS hX k) Try.func69 (by kernel_rfl) (hX.no 69 _ h (by decide))
    (by
      have e : need (slices_Index_int_int.an k) slices_Index_int_int.body 1 = [(Code.loop slices_Index_int_int.c26, lrun [(0, .sl), (1, (.int .i64)), (7, (.int .i64)), (8, (.int .i64))] (some [(4, (.int .i64))]) [] 0 (fun a h => slices_Index_int_int.l0 k k (a.1) (a.2.1) (a.2.2.1) (a.2.2.2) h))] := by kernel_rfl
      rw [e]; intro q hq
      rcases List.mem_cons.1 hq with rfl | hq
      · exact slices_Index_int_int.l0_pass hX k k
      cases hq)
    ((slices_Index_int_int.eq k a h).symm.trans e)
/-! ### slices.Contains[[]int,int] -/
noncomputable def slices_Contains_int_int.f (k : Nat) (a0 : Sl) (a1 : Int) (h : H) : Option ((Bool) × H) :=
  (slices_Index_int_int.f k a0 a1 h).bind fun q1 =>
    some (decide (q1.1 ≥ (0 : Int)), q1.2)
noncomputable def slices_Contains_int_int.T (k : Nat) : Tbl := tblOf [⟨69, anyArgs, wr [.sl, (.int .i64)] [(.int .i64)] (fun a h => slices_Index_int_int.f k (a.1) (a.2) h)⟩]
noncomputable def slices_Contains_int_int.an (k : Nat) (p : Nat) : Option Ann := none
noncomputable def slices_Contains_int_int.body : Code := (Try.f56.body).getD .skip
set_option maxRecDepth 100000 in
theorem slices_Contains_int_int.TS {C : FuncId → Bool} {X : CallF} (hX : XOk C X) (k : Nat) : TblS Try.prog C X (slices_Contains_int_int.T k) := by
  refine tblOf_sound ?_
  intro e he
  rcases List.mem_cons.1 he with rfl | he
  · exact wr_told (slices_Index_int_int.told hX k)
  exact absurd he List.not_mem_nil
set_option maxRecDepth 100000 in
theorem slices_Contains_int_int.eq (k : Nat) (a : RT [.sl, (.int .i64)]) (h : H) : (fun a h => slices_Contains_int_int.f k (a.1) (a.2) h) a h = kfun Try.prog (slices_Contains_int_int.T k) (slices_Contains_int_int.an k) (RT [.bool] × H) Try.f56 (encL [.sl, (.int .i64)] a) h (fun vs h' => (decL [.bool] vs).bind fun x => some (x, h')) := by kernel_rfl
set_option maxRecDepth 100000 in
theorem slices_Contains_int_int.told {C : FuncId → Bool} {X : CallF} (hX : XOk C X) (k : Nat) : Den.Told Try.prog C X 56 [.sl, (.int .i64)] [.bool] (fun a h => slices_Contains_int_int.f k (a.1) (a.2) h) :=
  told_of fun a h q e => fn_of (c := slices_Contains_int_int.body) (slices_Contains_int_int.TS hX k) Try.func56 (by kernel_rfl) (hX.no 56 _ h (by decide))
    (by
      have e : need (slices_Contains_int_int.an k) slices_Contains_int_int.body 1 = [] := by kernel_rfl
      rw [e]; intro q hq; cases hq)
    ((slices_Contains_int_int.eq k a h).symm.trans e)
/-! ### (*corbel/platter.Platter).Crash -/
noncomputable def platter_Platter_Crash.l0 (k : Nat) (n : Nat) : (Option Addr) → Sl → Sl → Int → Int → H → Option ((Unit) × H) :=
  Nat.rec (motive := fun _ => (Option Addr) → Sl → Sl → Int → Int → H → Option ((Unit) × H)) (fun _ _ _ _ _ _ => none) (fun _ ih x4 x5 x6 x7 x8 h9 => cond (decide (x8 < x7))
      ((asP (ixs 2 x6.a x6.n x8)).bind fun p10 =>
    (asSt [(.int .i64), .sl] (lda 2 h9 p10)).bind fun s11 =>
    (stv 2 (newR h9 92 2 [(Value.int .i64 (0 : Int)), (Value.slice none 0 0)]) (some ⟨h9.next, 0, none⟩) [(Value.int .i64 s11.1), (Value.slice s11.2.a s11.2.n s11.2.c)]).bind fun q12 =>
    (slices_Contains_int_int.f k x5 x8 q12.2).bind fun q13 =>
    (cond q13.1
      ((asP (nilA (Value.pointer x4))).bind fun p14 =>
    (asP (fadd 0 p14)).bind fun p15 =>
    (asS (ldc q13.2 p15)).bind fun s16 =>
    (asI .i64 (ldc q13.2 (some ⟨h9.next, 0, none⟩))).bind fun n17 =>
    (asS (ldc q13.2 (some ⟨h9.next, 1, none⟩))).bind fun s18 =>
    (asP (ixs 1 s16.a s16.n n17)).bind fun p19 =>
    (stv 1 q13.2 p19 [(Value.slice s18.a s18.n s18.c)]).bind fun q20 =>
    some ((), q20.2))
      (some ((), q13.2)) : Option ((Unit) × H)).bind fun j21 =>
    ih x4 x5 x6 x7 (wrapA .i64 (x8 + (1 : Int))) j21.2)
      (some ((), h9))) n
theorem platter_Platter_Crash.l0_zero (k : Nat) (x4 : Option Addr) (x5 : Sl) (x6 : Sl) (x7 : Int) (x8 : Int) (h9 : H) : platter_Platter_Crash.l0 k 0 x4 x5 x6 x7 x8 h9 = none := rfl
theorem platter_Platter_Crash.l0_succ (k n : Nat) (x4 : Option Addr) (x5 : Sl) (x6 : Sl) (x7 : Int) (x8 : Int) (h9 : H) : platter_Platter_Crash.l0 k (n + 1) x4 x5 x6 x7 x8 h9 = (cond (decide (x8 < x7))
      ((asP (ixs 2 x6.a x6.n x8)).bind fun p10 =>
    (asSt [(.int .i64), .sl] (lda 2 h9 p10)).bind fun s11 =>
    (stv 2 (newR h9 92 2 [(Value.int .i64 (0 : Int)), (Value.slice none 0 0)]) (some ⟨h9.next, 0, none⟩) [(Value.int .i64 s11.1), (Value.slice s11.2.a s11.2.n s11.2.c)]).bind fun q12 =>
    (slices_Contains_int_int.f k x5 x8 q12.2).bind fun q13 =>
    (cond q13.1
      ((asP (nilA (Value.pointer x4))).bind fun p14 =>
    (asP (fadd 0 p14)).bind fun p15 =>
    (asS (ldc q13.2 p15)).bind fun s16 =>
    (asI .i64 (ldc q13.2 (some ⟨h9.next, 0, none⟩))).bind fun n17 =>
    (asS (ldc q13.2 (some ⟨h9.next, 1, none⟩))).bind fun s18 =>
    (asP (ixs 1 s16.a s16.n n17)).bind fun p19 =>
    (stv 1 q13.2 p19 [(Value.slice s18.a s18.n s18.c)]).bind fun q20 =>
    some ((), q20.2))
      (some ((), q13.2)) : Option ((Unit) × H)).bind fun j21 =>
    platter_Platter_Crash.l0 k n x4 x5 x6 x7 (wrapA .i64 (x8 + (1 : Int))) j21.2)
      (some ((), h9))) := rfl
noncomputable def platter_Platter_Crash.f (k : Nat) (a0 : Option Addr) (a1 : Sl) (h : H) : Option ((Unit) × H) :=
  (asP (nilA (Value.pointer a0))).bind fun p1 =>
    (asP (fadd 2 p1)).bind fun p2 =>
    (asS (ldc h p2)).bind fun s3 =>
    (platter_Platter_Crash.l0 k k a0 a1 s3 (Int.ofNat s3.n) (0 : Int) h).bind fun w22 =>
    (asP (nilA (Value.pointer a0))).bind fun p23 =>
    (asP (fadd 0 p23)).bind fun p24 =>
    (asS (ldc w22.2 p24)).bind fun s25 =>
    (slices_Clone_byte_byte_2.f k s25 w22.2).bind fun q26 =>
    (asP (nilA (Value.pointer a0))).bind fun p27 =>
    (asP (fadd 1 p27)).bind fun p28 =>
    (stv 1 q26.2 p28 [(Value.slice q26.1.a q26.1.n q26.1.c)]).bind fun q29 =>
    (asP (nilA (Value.pointer a0))).bind fun p30 =>
    (asP (fadd 2 p30)).bind fun p31 =>
    (stv 1 q29.2 p31 [(Value.slice none 0 0)]).bind fun q32 =>
    some ((), q32.2)
noncomputable def platter_Platter_Crash.T (k : Nat) : Tbl := tblOf [⟨56, anyArgs, wr [.sl, (.int .i64)] [.bool] (fun a h => slices_Contains_int_int.f k (a.1) (a.2) h)⟩,
  ⟨55, anyArgs, wr [.sl] [.sl] (fun a h => slices_Clone_byte_byte_2.f k a h)⟩]
noncomputable def platter_Platter_Crash.an (k : Nat) (p : Nat) : Option Ann := cond (Nat.beq p 10) (some (.pass [0] (lrun [(0, .ptr), (1, .sl), (9, .sl), (10, (.int .i64)), (11, (.int .i64))] none [] 0 (fun a h => platter_Platter_Crash.l0 k k (a.1) (a.2.1) (a.2.2.1) (a.2.2.2.1) (a.2.2.2.2) h))))
  (cond (Nat.beq p 1331) (some (.join [0, 1, 9, 10, 11] none []))
  (none))
noncomputable def platter_Platter_Crash.body : Code := (Try.f29.body).getD .skip
noncomputable def platter_Platter_Crash.c10 : Code := cat platter_Platter_Crash.body [0, 1, 0, 0]
set_option maxRecDepth 100000 in
theorem platter_Platter_Crash.TS {C : FuncId → Bool} {X : CallF} (hX : XOk C X) (k : Nat) : TblS Try.prog C X (platter_Platter_Crash.T k) := by
  refine tblOf_sound ?_
  intro e he
  rcases List.mem_cons.1 he with rfl | he
  · exact wr_told (slices_Contains_int_int.told hX k)
  rcases List.mem_cons.1 he with rfl | he
  · exact wr_told (slices_Clone_byte_byte_2.told hX k)
  exact absurd he List.not_mem_nil
set_option maxRecDepth 100000 in
theorem platter_Platter_Crash.l0_pass {C : FuncId → Bool} {X : CallF} (hX : XOk C X) (k n : Nat) : PassS Try.prog C X 40 (.loop platter_Platter_Crash.c10) (lrun [(0, .ptr), (1, .sl), (9, .sl), (10, (.int .i64)), (11, (.int .i64))] none [] 0 (fun a h => platter_Platter_Crash.l0 k n (a.1) (a.2.1) (a.2.2.1) (a.2.2.2.1) (a.2.2.2.2) h)) :=
  loop_pass (ins := [(0, .ptr), (1, .sl), (9, .sl), (10, (.int .i64)), (11, (.int .i64))]) (rets := none) (outs := []) (id := 0) (tbl := platter_Platter_Crash.T k) (an := platter_Platter_Crash.an k) (pb := 20) (platter_Platter_Crash.TS hX k) (fun n => (fun a h => platter_Platter_Crash.l0 k n (a.1) (a.2.1) (a.2.2.1) (a.2.2.2.1) (a.2.2.2.2) h)) (fun a h => rfl) (fun n a h => by kernel_rfl)
    (by
      have e : need (platter_Platter_Crash.an k) platter_Platter_Crash.c10 20 = [] := by kernel_rfl
      rw [e]; intro q hq; cases hq) n
set_option maxRecDepth 100000 in
theorem platter_Platter_Crash.eq (k : Nat) (a : RT [.ptr, .sl]) (h : H) : (fun a h => platter_Platter_Crash.f k (a.1) (a.2) h) a h = kfun Try.prog (platter_Platter_Crash.T k) (platter_Platter_Crash.an k) (RT [] × H) Try.f29 (encL [.ptr, .sl] a) h (fun vs h' => (decL [] vs).bind fun x => some (x, h')) := by kernel_rfl
set_option maxRecDepth 100000 in
theorem platter_Platter_Crash.told {C : FuncId → Bool} {X : CallF} (hX : XOk C X) (k : Nat) : Den.Told Try.prog C X 29 [.ptr, .sl] [] (fun a h => platter_Platter_Crash.f k (a.1) (a.2) h) :=
  told_of fun a h q e => fn_of (c := platter_Platter_Crash.body) (platter_Platter_Crash.TS hX k) Try.func29 (by kernel_rfl) (hX.no 29 _ h (by decide))
    (by
      have e : need (platter_Platter_Crash.an k) platter_Platter_Crash.body 1 = [(Code.loop platter_Platter_Crash.c10, lrun [(0, .ptr), (1, .sl), (9, .sl), (10, (.int .i64)), (11, (.int .i64))] none [] 0 (fun a h => platter_Platter_Crash.l0 k k (a.1) (a.2.1) (a.2.2.1) (a.2.2.2.1) (a.2.2.2.2) h))] := by kernel_rfl
      rw [e]; intro q hq
      rcases List.mem_cons.1 hq with rfl | hq
      · exact platter_Platter_Crash.l0_pass hX k k
      cases hq)
    ((platter_Platter_Crash.eq k a h).symm.trans e)
/-! ### (*corbel/platter.Platter).Read -/
noncomputable def platter_Platter_Read.f (k : Nat) (a0 : Option Addr) (a1 : Int) (h : H) : Option ((Sl × Bool) × H) :=
  (platter_Platter_has.f k a0 a1 h).bind fun q1 =>
    cond (!q1.1)
      (some (((⟨none, 0, 0⟩ : Sl), false), q1.2))
      ((asP (nilA (Value.pointer a0))).bind fun p2 =>
    (asP (fadd 1 p2)).bind fun p3 =>
    (asS (ldc q1.2 p3)).bind fun s4 =>
    (asP (ixs 1 s4.a s4.n a1)).bind fun p5 =>
    (asS (ldc q1.2 p5)).bind fun s6 =>
    (slices_Clone_byte_byte.f k s6 q1.2).bind fun q7 =>
    some ((q7.1, true), q7.2))
noncomputable def platter_Platter_Read.T (k : Nat) : Tbl := tblOf [⟨54, anyArgs, wr [.ptr, (.int .i64)] [.bool] (fun a h => platter_Platter_has.f k (a.1) (a.2) h)⟩,
  ⟨51, anyArgs, wr [.sl] [.sl] (fun a h => slices_Clone_byte_byte.f k a h)⟩]
noncomputable def platter_Platter_Read.an (k : Nat) (p : Nat) : Option Ann := none
noncomputable def platter_Platter_Read.body : Code := (Try.f30.body).getD .skip
set_option maxRecDepth 100000 in
theorem platter_Platter_Read.TS {C : FuncId → Bool} {X : CallF} (hX : XOk C X) (k : Nat) : TblS Try.prog C X (platter_Platter_Read.T k) := by
  refine tblOf_sound ?_
  intro e he
  rcases List.mem_cons.1 he with rfl | he
  · exact wr_told (platter_Platter_has.told hX k)
  rcases List.mem_cons.1 he with rfl | he
  · exact wr_told (slices_Clone_byte_byte.told hX k)
  exact absurd he List.not_mem_nil
set_option maxRecDepth 100000 in
theorem platter_Platter_Read.eq (k : Nat) (a : RT [.ptr, (.int .i64)]) (h : H) : (fun a h => platter_Platter_Read.f k (a.1) (a.2) h) a h = kfun Try.prog (platter_Platter_Read.T k) (platter_Platter_Read.an k) (RT [.sl, .bool] × H) Try.f30 (encL [.ptr, (.int .i64)] a) h (fun vs h' => (decL [.sl, .bool] vs).bind fun x => some (x, h')) := by kernel_rfl
set_option maxRecDepth 100000 in
theorem platter_Platter_Read.told {C : FuncId → Bool} {X : CallF} (hX : XOk C X) (k : Nat) : Den.Told Try.prog C X 30 [.ptr, (.int .i64)] [.sl, .bool] (fun a h => platter_Platter_Read.f k (a.1) (a.2) h) :=
  told_of fun a h q e => fn_of (c := platter_Platter_Read.body) (platter_Platter_Read.TS hX k) Try.func30 (by kernel_rfl) (hX.no 30 _ h (by decide))
    (by
      have e : need (platter_Platter_Read.an k) platter_Platter_Read.body 1 = [] := by kernel_rfl
      rw [e]; intro q hq; cases hq)
    ((platter_Platter_Read.eq k a h).symm.trans e)
/-! ### (*corbel/platter.Platter).Pending -/
noncomputable def platter_Platter_Pending.l0 (k : Nat) (n : Nat) : Sl → Int → Sl → Int → H → Option ((Sl) × H) :=
  Nat.rec (motive := fun _ => Sl → Int → Sl → Int → H → Option ((Sl) × H)) (fun _ _ _ _ _ => none) (fun _ ih x4 x5 x6 x7 h8 => cond (decide (x7 < x5))
      ((asP (ixs 2 x4.a x4.n x7)).bind fun p9 =>
    (asSt [(.int .i64), .sl] (lda 2 h8 p9)).bind fun s10 =>
    (stv 2 (newR h8 92 2 [(Value.int .i64 (0 : Int)), (Value.slice none 0 0)]) (some ⟨h8.next, 0, none⟩) [(Value.int .i64 s10.1), (Value.slice s10.2.a s10.2.n s10.2.c)]).bind fun q11 =>
    (asI .i64 (ldc q11.2 (some ⟨h8.next, 0, none⟩))).bind fun n12 =>
    (asS2 (apv 3 1 8 (Value.slice x6.a x6.n x6.c) (Value.slice (some ⟨q11.2.next, 0, none⟩) 1 1) (newR q11.2 3 1 [(Value.int .i64 n12)]))).bind fun q13 =>
    ih x4 x5 q13.1 (wrapA .i64 (x7 + (1 : Int))) q13.2)
      (some (x6, h8))) n
theorem platter_Platter_Pending.l0_zero (k : Nat) (x4 : Sl) (x5 : Int) (x6 : Sl) (x7 : Int) (h8 : H) : platter_Platter_Pending.l0 k 0 x4 x5 x6 x7 h8 = none := rfl
theorem platter_Platter_Pending.l0_succ (k n : Nat) (x4 : Sl) (x5 : Int) (x6 : Sl) (x7 : Int) (h8 : H) : platter_Platter_Pending.l0 k (n + 1) x4 x5 x6 x7 h8 = (cond (decide (x7 < x5))
      ((asP (ixs 2 x4.a x4.n x7)).bind fun p9 =>
    (asSt [(.int .i64), .sl] (lda 2 h8 p9)).bind fun s10 =>
    (stv 2 (newR h8 92 2 [(Value.int .i64 (0 : Int)), (Value.slice none 0 0)]) (some ⟨h8.next, 0, none⟩) [(Value.int .i64 s10.1), (Value.slice s10.2.a s10.2.n s10.2.c)]).bind fun q11 =>
    (asI .i64 (ldc q11.2 (some ⟨h8.next, 0, none⟩))).bind fun n12 =>
    (asS2 (apv 3 1 8 (Value.slice x6.a x6.n x6.c) (Value.slice (some ⟨q11.2.next, 0, none⟩) 1 1) (newR q11.2 3 1 [(Value.int .i64 n12)]))).bind fun q13 =>
    platter_Platter_Pending.l0 k n x4 x5 q13.1 (wrapA .i64 (x7 + (1 : Int))) q13.2)
      (some (x6, h8))) := rfl
noncomputable def platter_Platter_Pending.f (k : Nat) (a0 : Option Addr) (h : H) : Option ((Sl) × H) :=
  (asP (nilA (Value.pointer a0))).bind fun p1 =>
    (asP (fadd 2 p1)).bind fun p2 =>
    (asS (ldc h p2)).bind fun s3 =>
    (platter_Platter_Pending.l0 k k s3 (Int.ofNat s3.n) (⟨none, 0, 0⟩ : Sl) (0 : Int) h).bind fun w14 =>
    some (w14.1, w14.2)
noncomputable def platter_Platter_Pending.T (k : Nat) : Tbl := tblOf []
noncomputable def platter_Platter_Pending.an (k : Nat) (p : Nat) : Option Ann := cond (Nat.beq p 58) (some (.pass [] (lrun [(9, .sl), (10, (.int .i64)), (3, .sl), (11, (.int .i64))] none [(3, .sl)] 0 (fun a h => platter_Platter_Pending.l0 k k (a.1) (a.2.1) (a.2.2.1) (a.2.2.2) h))))
  (none)
noncomputable def platter_Platter_Pending.body : Code := (Try.f31.body).getD .skip
noncomputable def platter_Platter_Pending.c58 : Code := cat platter_Platter_Pending.body [1, 1, 0, 1, 0, 0]
set_option maxRecDepth 100000 in
theorem platter_Platter_Pending.TS {C : FuncId → Bool} {X : CallF} (hX : XOk C X) (k : Nat) : TblS Try.prog C X (platter_Platter_Pending.T k) := by
  refine tblOf_sound ?_
  intro e he
  exact absurd he List.not_mem_nil
set_option maxRecDepth 100000 in
theorem platter_Platter_Pending.l0_pass {C : FuncId → Bool} {X : CallF} (hX : XOk C X) (k n : Nat) : PassS Try.prog C X 22 (.loop platter_Platter_Pending.c58) (lrun [(9, .sl), (10, (.int .i64)), (3, .sl), (11, (.int .i64))] none [(3, .sl)] 0 (fun a h => platter_Platter_Pending.l0 k n (a.1) (a.2.1) (a.2.2.1) (a.2.2.2) h)) :=
  loop_pass (ins := [(9, .sl), (10, (.int .i64)), (3, .sl), (11, (.int .i64))]) (rets := none) (outs := [(3, .sl)]) (id := 0) (tbl := platter_Platter_Pending.T k) (an := platter_Platter_Pending.an k) (pb := 116) (platter_Platter_Pending.TS hX k) (fun n => (fun a h => platter_Platter_Pending.l0 k n (a.1) (a.2.1) (a.2.2.1) (a.2.2.2) h)) (fun a h => rfl) (fun n a h => by kernel_rfl)
    (by
      have e : need (platter_Platter_Pending.an k) platter_Platter_Pending.c58 116 = [] := by kernel_rfl
      rw [e]; intro q hq; cases hq) n
set_option maxRecDepth 100000 in
theorem platter_Platter_Pending.eq (k : Nat) (a : RT [.ptr]) (h : H) : (fun a h => platter_Platter_Pending.f k a h) a h = kfun Try.prog (platter_Platter_Pending.T k) (platter_Platter_Pending.an k) (RT [.sl] × H) Try.f31 (encL [.ptr] a) h (fun vs h' => (decL [.sl] vs).bind fun x => some (x, h')) := by kernel_rfl
set_option maxRecDepth 100000 in
theorem platter_Platter_Pending.told {C : FuncId → Bool} {X : CallF} (hX : XOk C X) (k : Nat) : Den.Told Try.prog C X 31 [.ptr] [.sl] (fun a h => platter_Platter_Pending.f k a h) :=
  told_of fun a h q e => fn_of (c := platter_Platter_Pending.body) (platter_Platter_Pending.TS hX k) Try.func31 (by kernel_rfl) (hX.no 31 _ h (by decide))
    (by
      have e : need (platter_Platter_Pending.an k) platter_Platter_Pending.body 1 = [(Code.loop platter_Platter_Pending.c58, lrun [(9, .sl), (10, (.int .i64)), (3, .sl), (11, (.int .i64))] none [(3, .sl)] 0 (fun a h => platter_Platter_Pending.l0 k k (a.1) (a.2.1) (a.2.2.1) (a.2.2.2) h))] := by kernel_rfl
      rw [e]; intro q hq
      rcases List.mem_cons.1 hq with rfl | hq
      · exact platter_Platter_Pending.l0_pass hX k k
      cases hq)
    ((platter_Platter_Pending.eq k a h).symm.trans e)
/-! ### (*corbel/platter.Platter).Writes -/
noncomputable def platter_Platter_Writes.f (k : Nat) (a0 : Option Addr) (h : H) : Option ((Int) × H) :=
  (asP (nilA (Value.pointer a0))).bind fun p1 =>
    (asP (fadd 3 p1)).bind fun p2 =>
    (asI .i64 (ldc h p2)).bind fun n3 =>
    some (n3, h)
noncomputable def platter_Platter_Writes.T (k : Nat) : Tbl := tblOf []
noncomputable def platter_Platter_Writes.an (k : Nat) (p : Nat) : Option Ann := none
noncomputable def platter_Platter_Writes.body : Code := (Try.f33.body).getD .skip
set_option maxRecDepth 100000 in
theorem platter_Platter_Writes.TS {C : FuncId → Bool} {X : CallF} (hX : XOk C X) (k : Nat) : TblS Try.prog C X (platter_Platter_Writes.T k) := by
  refine tblOf_sound ?_
  intro e he
  exact absurd he List.not_mem_nil
set_option maxRecDepth 100000 in
theorem platter_Platter_Writes.eq (k : Nat) (a : RT [.ptr]) (h : H) : (fun a h => platter_Platter_Writes.f k a h) a h = kfun Try.prog (platter_Platter_Writes.T k) (platter_Platter_Writes.an k) (RT [(.int .i64)] × H) Try.f33 (encL [.ptr] a) h (fun vs h' => (decL [(.int .i64)] vs).bind fun x => some (x, h')) := by kernel_rfl
set_option maxRecDepth 100000 in
theorem platter_Platter_Writes.told {C : FuncId → Bool} {X : CallF} (hX : XOk C X) (k : Nat) : Den.Told Try.prog C X 33 [.ptr] [(.int .i64)] (fun a h => platter_Platter_Writes.f k a h) :=
  told_of fun a h q e => fn_of (c := platter_Platter_Writes.body) (platter_Platter_Writes.TS hX k) Try.func33 (by kernel_rfl) (hX.no 33 _ h (by decide))
    (by
      have e : need (platter_Platter_Writes.an k) platter_Platter_Writes.body 1 = [] := by kernel_rfl
      rw [e]; intro q hq; cases hq)
    ((platter_Platter_Writes.eq k a h).symm.trans e)
/-! ### (*corbel/platter.Platter).Wipe -/
noncomputable def platter_Platter_Wipe.f (k : Nat) (a0 : Option Addr) (h : H) : Option ((Unit) × H) :=
  (asP (nilA (Value.pointer a0))).bind fun p1 =>
    (asP (fadd 1 p1)).bind fun p2 =>
    (asS (ldc h p2)).bind fun s3 =>
    (platter_blank.f k (Int.ofNat s3.n) h).bind fun q4 =>
    (asP (nilA (Value.pointer a0))).bind fun p5 =>
    (asP (fadd 1 p5)).bind fun p6 =>
    (asS (ldc q4.2 p6)).bind fun s7 =>
    (platter_blank.f k (Int.ofNat s7.n) q4.2).bind fun q8 =>
    (asP (nilA (Value.pointer a0))).bind fun p9 =>
    (asP (fadd 0 p9)).bind fun p10 =>
    (stv 1 q8.2 p10 [(Value.slice q4.1.a q4.1.n q4.1.c)]).bind fun q11 =>
    (asP (nilA (Value.pointer a0))).bind fun p12 =>
    (asP (fadd 1 p12)).bind fun p13 =>
    (stv 1 q11.2 p13 [(Value.slice q8.1.a q8.1.n q8.1.c)]).bind fun q14 =>
    (asP (nilA (Value.pointer a0))).bind fun p15 =>
    (asP (fadd 2 p15)).bind fun p16 =>
    (stv 1 q14.2 p16 [(Value.slice none 0 0)]).bind fun q17 =>
    cond (same1 h q4.2 (some (Value.pointer p6)) && (same1 h q4.2 (some (Value.slice s7.a s7.n s7.c)) && (true))) (some ((), q17.2)) none
noncomputable def platter_Platter_Wipe.T (k : Nat) : Tbl := tblOf [⟨53, anyArgs, wr [(.int .i64)] [.sl] (fun a h => platter_blank.f k a h)⟩]
noncomputable def platter_Platter_Wipe.an (k : Nat) (p : Nat) : Option Ann := none
noncomputable def platter_Platter_Wipe.body : Code := (Try.f34.body).getD .skip
set_option maxRecDepth 100000 in
theorem platter_Platter_Wipe.TS {C : FuncId → Bool} {X : CallF} (hX : XOk C X) (k : Nat) : TblS Try.prog C X (platter_Platter_Wipe.T k) := by
  refine tblOf_sound ?_
  intro e he
  rcases List.mem_cons.1 he with rfl | he
  · exact wr_told (platter_blank.told hX k)
  exact absurd he List.not_mem_nil
set_option maxRecDepth 100000 in
theorem platter_Platter_Wipe.eq (k : Nat) (a : RT [.ptr]) (h : H) : (fun a h => platter_Platter_Wipe.f k a h) a h = kfun Try.prog (platter_Platter_Wipe.T k) (platter_Platter_Wipe.an k) (RT [] × H) Try.f34 (encL [.ptr] a) h (fun vs h' => (decL [] vs).bind fun x => some (x, h')) := by kernel_rfl
set_option maxRecDepth 100000 in
theorem platter_Platter_Wipe.told {C : FuncId → Bool} {X : CallF} (hX : XOk C X) (k : Nat) : Den.Told Try.prog C X 34 [.ptr] [] (fun a h => platter_Platter_Wipe.f k a h) :=
  told_of fun a h q e => fn_of (c := platter_Platter_Wipe.body) (platter_Platter_Wipe.TS hX k) Try.func34 (by kernel_rfl) (hX.no 34 _ h (by decide))
    (by
      have e : need (platter_Platter_Wipe.an k) platter_Platter_Wipe.body 1 = [] := by kernel_rfl
      rw [e]; intro q hq; cases hq)
    ((platter_Platter_Wipe.eq k a h).symm.trans e)
/-! ### (*corbel/platter.Platter).Blocks -/
noncomputable def platter_Platter_Blocks.f (k : Nat) (a0 : Option Addr) (h : H) : Option ((Int) × H) :=
  (asP (nilA (Value.pointer a0))).bind fun p1 =>
    (asP (fadd 1 p1)).bind fun p2 =>
    (asS (ldc h p2)).bind fun s3 =>
    some ((Int.ofNat s3.n), h)
noncomputable def platter_Platter_Blocks.T (k : Nat) : Tbl := tblOf []
noncomputable def platter_Platter_Blocks.an (k : Nat) (p : Nat) : Option Ann := none
noncomputable def platter_Platter_Blocks.body : Code := (Try.f35.body).getD .skip
set_option maxRecDepth 100000 in
theorem platter_Platter_Blocks.TS {C : FuncId → Bool} {X : CallF} (hX : XOk C X) (k : Nat) : TblS Try.prog C X (platter_Platter_Blocks.T k) := by
  refine tblOf_sound ?_
  intro e he
  exact absurd he List.not_mem_nil
set_option maxRecDepth 100000 in
theorem platter_Platter_Blocks.eq (k : Nat) (a : RT [.ptr]) (h : H) : (fun a h => platter_Platter_Blocks.f k a h) a h = kfun Try.prog (platter_Platter_Blocks.T k) (platter_Platter_Blocks.an k) (RT [(.int .i64)] × H) Try.f35 (encL [.ptr] a) h (fun vs h' => (decL [(.int .i64)] vs).bind fun x => some (x, h')) := by kernel_rfl
set_option maxRecDepth 100000 in
theorem platter_Platter_Blocks.told {C : FuncId → Bool} {X : CallF} (hX : XOk C X) (k : Nat) : Den.Told Try.prog C X 35 [.ptr] [(.int .i64)] (fun a h => platter_Platter_Blocks.f k a h) :=
  told_of fun a h q e => fn_of (c := platter_Platter_Blocks.body) (platter_Platter_Blocks.TS hX k) Try.func35 (by kernel_rfl) (hX.no 35 _ h (by decide))
    (by
      have e : need (platter_Platter_Blocks.an k) platter_Platter_Blocks.body 1 = [] := by kernel_rfl
      rw [e]; intro q hq; cases hq)
    ((platter_Platter_Blocks.eq k a h).symm.trans e)
end Go.Proofs.Ytbegaeohggkblaa.Fwd
