/- Forward runs of functions of the program, printed by a program of this session: each function on plain values and memory, and that the code comes to it. No condition. -/
import Derived.Test.YtbegaeohggkblaaDenZ
import Derived.KernelRfl
import Derived.Test.YtbegaeohggkblaaFPlat
namespace Go.Proofs.Ytbegaeohggkblaa.Fwd
open Go Den
set_option linter.unusedVariables false
/-! ### corbel/corbelref7.SameInts -/
noncomputable def corbelref7_SameInts.l0 (k : Nat) (n : Nat) : Sl → Sl → Int → H → Option (((Bool) ⊕ (Unit)) × H) :=
  Nat.rec (motive := fun _ => Sl → Sl → Int → H → Option (((Bool) ⊕ (Unit)) × H)) (fun _ _ _ _ => none) (fun _ ih x1 x2 x3 h4 => cond (decide (x3 < (Int.ofNat x1.n)))
      ((asP (ixs 1 x1.a x1.n x3)).bind fun p5 =>
    (asI .i64 (ldc h4 p5)).bind fun n6 =>
    (asP (ixs 1 x2.a x2.n x3)).bind fun p7 =>
    (asI .i64 (ldc h4 p7)).bind fun n8 =>
    cond (n6 != n8)
      (some (Sum.inl false, h4))
      (ih x1 x2 (wrapA .i64 (x3 + (1 : Int))) h4))
      (some (Sum.inr (), h4))) n
theorem corbelref7_SameInts.l0_zero (k : Nat) (x1 : Sl) (x2 : Sl) (x3 : Int) (h4 : H) : corbelref7_SameInts.l0 k 0 x1 x2 x3 h4 = none := rfl
theorem corbelref7_SameInts.l0_succ (k n : Nat) (x1 : Sl) (x2 : Sl) (x3 : Int) (h4 : H) : corbelref7_SameInts.l0 k (n + 1) x1 x2 x3 h4 = (cond (decide (x3 < (Int.ofNat x1.n)))
      ((asP (ixs 1 x1.a x1.n x3)).bind fun p5 =>
    (asI .i64 (ldc h4 p5)).bind fun n6 =>
    (asP (ixs 1 x2.a x2.n x3)).bind fun p7 =>
    (asI .i64 (ldc h4 p7)).bind fun n8 =>
    cond (n6 != n8)
      (some (Sum.inl false, h4))
      (corbelref7_SameInts.l0 k n x1 x2 (wrapA .i64 (x3 + (1 : Int))) h4))
      (some (Sum.inr (), h4))) := rfl
noncomputable def corbelref7_SameInts.f (k : Nat) (a0 : Sl) (a1 : Sl) (h : H) : Option ((Bool) × H) :=
  cond ((Int.ofNat a0.n) != (Int.ofNat a1.n))
      (some (false, h))
      ((corbelref7_SameInts.l0 k k a0 a1 (0 : Int) h).bind fun w9 =>
    match w9.1 with
    | .inl r10 => some (r10, w9.2)
    | .inr o11 => some (true, w9.2))
noncomputable def corbelref7_SameInts.T (k : Nat) : Tbl := tblOf []
noncomputable def corbelref7_SameInts.an (k : Nat) (p : Nat) : Option Ann := cond (Nat.beq p 58) (some (.pass [] (lrun [(0, .sl), (1, .sl), (5, (.int .i64))] (some [(4, .bool)]) [] 0 (fun a h => corbelref7_SameInts.l0 k k (a.1) (a.2.1) (a.2.2) h))))
  (none)
noncomputable def corbelref7_SameInts.body : Code := (Try.f32.body).getD .skip
noncomputable def corbelref7_SameInts.c58 : Code := cat corbelref7_SameInts.body [1, 1, 0, 1, 0, 0]
set_option maxRecDepth 100000 in
theorem corbelref7_SameInts.TS {C : FuncId → Bool} {X : CallF} (hX : XOk C X) (k : Nat) : TblS Try.prog C X (corbelref7_SameInts.T k) := by
  refine tblOf_sound ?_
  intro e he
  exact absurd he List.not_mem_nil
set_option maxRecDepth 100000 in
theorem corbelref7_SameInts.l0_pass {C : FuncId → Bool} {X : CallF} (hX : XOk C X) (k n : Nat) : PassS Try.prog C X 26 (.loop corbelref7_SameInts.c58) (lrun [(0, .sl), (1, .sl), (5, (.int .i64))] (some [(4, .bool)]) [] 0 (fun a h => corbelref7_SameInts.l0 k n (a.1) (a.2.1) (a.2.2) h)) :=
  loop_pass (ins := [(0, .sl), (1, .sl), (5, (.int .i64))]) (rets := (some [(4, .bool)])) (outs := []) (id := 0) (tbl := corbelref7_SameInts.T k) (an := corbelref7_SameInts.an k) (pb := 116) (corbelref7_SameInts.TS hX k) (fun n => (fun a h => corbelref7_SameInts.l0 k n (a.1) (a.2.1) (a.2.2) h)) (fun a h => rfl) (fun n a h => by kernel_rfl)
    (by
      have e : need (corbelref7_SameInts.an k) corbelref7_SameInts.c58 116 = [] := by kernel_rfl
      rw [e]; intro q hq; cases hq) n
set_option maxRecDepth 100000 in
theorem corbelref7_SameInts.eq (k : Nat) (a : RT [.sl, .sl]) (h : H) : (fun a h => corbelref7_SameInts.f k (a.1) (a.2) h) a h = kfun Try.prog (corbelref7_SameInts.T k) (corbelref7_SameInts.an k) (RT [.bool] × H) Try.f32 (encL [.sl, .sl] a) h (fun vs h' => (decL [.bool] vs).bind fun x => some (x, h')) := by kernel_rfl
set_option maxRecDepth 100000 in
theorem corbelref7_SameInts.told {C : FuncId → Bool} {X : CallF} (hX : XOk C X) (k : Nat) : Den.Told Try.prog C X 32 [.sl, .sl] [.bool] (fun a h => corbelref7_SameInts.f k (a.1) (a.2) h) :=
  told_of fun a h q e => fn_of (c := corbelref7_SameInts.body) (corbelref7_SameInts.TS hX k) Try.func32 (by kernel_rfl) (hX.no 32 _ h (by decide))
    (by
      have e : need (corbelref7_SameInts.an k) corbelref7_SameInts.body 1 = [(Code.loop corbelref7_SameInts.c58, lrun [(0, .sl), (1, .sl), (5, (.int .i64))] (some [(4, .bool)]) [] 0 (fun a h => corbelref7_SameInts.l0 k k (a.1) (a.2.1) (a.2.2) h))] := by kernel_rfl
      rw [e]; intro q hq
      rcases List.mem_cons.1 hq with rfl | hq
      · exact corbelref7_SameInts.l0_pass hX k k
      cases hq)
    ((corbelref7_SameInts.eq k a h).symm.trans e)
/-! ### corbel/corbelref7.NewPlatter -/
noncomputable def corbelref7_NewPlatter.l0 (k : Nat) (n : Nat) : Int → (Option Addr) → Int → H → Option ((Unit) × H) :=
  Nat.rec (motive := fun _ => Int → (Option Addr) → Int → H → Option ((Unit) × H)) (fun _ _ _ _ => none) (fun _ ih x1 x2 x3 h4 => cond (decide (x3 < (cond (decide ((cond (decide (x1 < (1000 : Int))) x1 (1000 : Int)) > (1 : Int))) (cond (decide (x1 < (1000 : Int))) x1 (1000 : Int)) (1 : Int))))
      ((asP (nilA (Value.pointer x2))).bind fun p5 =>
    (asP (fadd 0 p5)).bind fun p6 =>
    (asS (ldc h4 p6)).bind fun s7 =>
    (asT (txt (newZ h4 5 1 [(Value.int .u8 (0 : Int))] 160) (Value.slice (some ⟨h4.next, 0, none⟩) 160 160))).bind fun s8 =>
    (asS2 (apv 9 1 16 (Value.slice s7.a s7.n s7.c) (Value.slice (some ⟨(newZ h4 5 1 [(Value.int .u8 (0 : Int))] 160).next, 0, none⟩) 1 1) (newR (newZ h4 5 1 [(Value.int .u8 (0 : Int))] 160) 9 1 [(Value.string s8)]))).bind fun q9 =>
    (asP (nilA (Value.pointer x2))).bind fun p10 =>
    (asP (fadd 0 p10)).bind fun p11 =>
    (stv 1 q9.2 p11 [(Value.slice q9.1.a q9.1.n q9.1.c)]).bind fun q12 =>
    ih x1 x2 (wrapA .i64 (x3 + (1 : Int))) q12.2)
      (some ((), h4))) n
theorem corbelref7_NewPlatter.l0_zero (k : Nat) (x1 : Int) (x2 : Option Addr) (x3 : Int) (h4 : H) : corbelref7_NewPlatter.l0 k 0 x1 x2 x3 h4 = none := rfl
theorem corbelref7_NewPlatter.l0_succ (k n : Nat) (x1 : Int) (x2 : Option Addr) (x3 : Int) (h4 : H) : corbelref7_NewPlatter.l0 k (n + 1) x1 x2 x3 h4 = (cond (decide (x3 < (cond (decide ((cond (decide (x1 < (1000 : Int))) x1 (1000 : Int)) > (1 : Int))) (cond (decide (x1 < (1000 : Int))) x1 (1000 : Int)) (1 : Int))))
      ((asP (nilA (Value.pointer x2))).bind fun p5 =>
    (asP (fadd 0 p5)).bind fun p6 =>
    (asS (ldc h4 p6)).bind fun s7 =>
    (asT (txt (newZ h4 5 1 [(Value.int .u8 (0 : Int))] 160) (Value.slice (some ⟨h4.next, 0, none⟩) 160 160))).bind fun s8 =>
    (asS2 (apv 9 1 16 (Value.slice s7.a s7.n s7.c) (Value.slice (some ⟨(newZ h4 5 1 [(Value.int .u8 (0 : Int))] 160).next, 0, none⟩) 1 1) (newR (newZ h4 5 1 [(Value.int .u8 (0 : Int))] 160) 9 1 [(Value.string s8)]))).bind fun q9 =>
    (asP (nilA (Value.pointer x2))).bind fun p10 =>
    (asP (fadd 0 p10)).bind fun p11 =>
    (stv 1 q9.2 p11 [(Value.slice q9.1.a q9.1.n q9.1.c)]).bind fun q12 =>
    corbelref7_NewPlatter.l0 k n x1 x2 (wrapA .i64 (x3 + (1 : Int))) q12.2)
      (some ((), h4))) := rfl
noncomputable def corbelref7_NewPlatter.f (k : Nat) (a0 : Int) (h : H) : Option ((Option Addr) × H) :=
  (corbelref7_NewPlatter.l0 k k a0 (some ⟨h.next, 0, none⟩) (0 : Int) (newR h 65 3 [(Value.slice none 0 0), (Value.slice none 0 0), (Value.int .i64 (0 : Int))])).bind fun w13 =>
    some ((some ⟨h.next, 0, none⟩), w13.2)
noncomputable def corbelref7_NewPlatter.T (k : Nat) : Tbl := tblOf []
noncomputable def corbelref7_NewPlatter.an (k : Nat) (p : Nat) : Option Ann := cond (Nat.beq p 58) (some (.pass [3] (lrun [(0, (.int .i64)), (3, .ptr), (4, (.int .i64))] none [] 0 (fun a h => corbelref7_NewPlatter.l0 k k (a.1) (a.2.1) (a.2.2) h))))
  (none)
noncomputable def corbelref7_NewPlatter.body : Code := (Try.f36.body).getD .skip
noncomputable def corbelref7_NewPlatter.c58 : Code := cat corbelref7_NewPlatter.body [1, 1, 0, 1, 0, 0]
set_option maxRecDepth 100000 in
theorem corbelref7_NewPlatter.TS {C : FuncId → Bool} {X : CallF} (hX : XOk C X) (k : Nat) : TblS Try.prog C X (corbelref7_NewPlatter.T k) := by
  refine tblOf_sound ?_
  intro e he
  exact absurd he List.not_mem_nil
set_option maxRecDepth 100000 in
theorem corbelref7_NewPlatter.l0_pass {C : FuncId → Bool} {X : CallF} (hX : XOk C X) (k n : Nat) : PassS Try.prog C X 26 (.loop corbelref7_NewPlatter.c58) (lrun [(0, (.int .i64)), (3, .ptr), (4, (.int .i64))] none [] 0 (fun a h => corbelref7_NewPlatter.l0 k n (a.1) (a.2.1) (a.2.2) h)) :=
  loop_pass (ins := [(0, (.int .i64)), (3, .ptr), (4, (.int .i64))]) (rets := none) (outs := []) (id := 0) (tbl := corbelref7_NewPlatter.T k) (an := corbelref7_NewPlatter.an k) (pb := 116) (corbelref7_NewPlatter.TS hX k) (fun n => (fun a h => corbelref7_NewPlatter.l0 k n (a.1) (a.2.1) (a.2.2) h)) (fun a h => rfl) (fun n a h => by kernel_rfl)
    (by
      have e : need (corbelref7_NewPlatter.an k) corbelref7_NewPlatter.c58 116 = [] := by kernel_rfl
      rw [e]; intro q hq; cases hq) n
set_option maxRecDepth 100000 in
theorem corbelref7_NewPlatter.eq (k : Nat) (a : RT [(.int .i64)]) (h : H) : (fun a h => corbelref7_NewPlatter.f k a h) a h = kfun Try.prog (corbelref7_NewPlatter.T k) (corbelref7_NewPlatter.an k) (RT [.ptr] × H) Try.f36 (encL [(.int .i64)] a) h (fun vs h' => (decL [.ptr] vs).bind fun x => some (x, h')) := by kernel_rfl
set_option maxRecDepth 100000 in
theorem corbelref7_NewPlatter.told {C : FuncId → Bool} {X : CallF} (hX : XOk C X) (k : Nat) : Den.Told Try.prog C X 36 [(.int .i64)] [.ptr] (fun a h => corbelref7_NewPlatter.f k a h) :=
  told_of fun a h q e => fn_of (c := corbelref7_NewPlatter.body) (corbelref7_NewPlatter.TS hX k) Try.func36 (by kernel_rfl) (hX.no 36 _ h (by decide))
    (by
      have e : need (corbelref7_NewPlatter.an k) corbelref7_NewPlatter.body 1 = [(Code.loop corbelref7_NewPlatter.c58, lrun [(0, (.int .i64)), (3, .ptr), (4, (.int .i64))] none [] 0 (fun a h => corbelref7_NewPlatter.l0 k k (a.1) (a.2.1) (a.2.2) h))] := by kernel_rfl
      rw [e]; intro q hq
      rcases List.mem_cons.1 hq with rfl | hq
      · exact corbelref7_NewPlatter.l0_pass hX k k
      cases hq)
    ((corbelref7_NewPlatter.eq k a h).symm.trans e)
/-! ### (*corbel/corbelref7.Platter).set -/
noncomputable def corbelref7_Platter_set.f (k : Nat) (a0 : Option Addr) (a1 : (Int × ByteArray)) (h : H) : Option ((Unit) × H) :=
  (asP (nilA (Value.pointer a0))).bind fun p1 =>
    (asP (fadd 0 p1)).bind fun p2 =>
    (asS (ldc (newR (newR h 67 2 [(Value.int .i64 a1.1), (Value.string a1.2)]) 9 1 []) p2)).bind fun s3 =>
    (asS2 (apv 9 1 16 (Value.slice (some ⟨(newR h 67 2 [(Value.int .i64 a1.1), (Value.string a1.2)]).next, 0, none⟩) 0 0) (Value.slice s3.a s3.n s3.c) (newR (newR h 67 2 [(Value.int .i64 a1.1), (Value.string a1.2)]) 9 1 []))).bind fun q4 =>
    (asI .i64 (ldc q4.2 (some ⟨h.next, 0, none⟩))).bind fun n5 =>
    (asT (ldc q4.2 (some ⟨h.next, 1, none⟩))).bind fun s6 =>
    (asP (ixs 1 q4.1.a q4.1.n n5)).bind fun p7 =>
    (stv 1 q4.2 p7 [(Value.string s6)]).bind fun q8 =>
    (asP (nilA (Value.pointer a0))).bind fun p9 =>
    (asP (fadd 0 p9)).bind fun p10 =>
    (stv 1 q8.2 p10 [(Value.slice q4.1.a q4.1.n q4.1.c)]).bind fun q11 =>
    some ((), q11.2)
noncomputable def corbelref7_Platter_set.T (k : Nat) : Tbl := tblOf []
noncomputable def corbelref7_Platter_set.an (k : Nat) (p : Nat) : Option Ann := none
noncomputable def corbelref7_Platter_set.body : Code := (Try.f57.body).getD .skip
set_option maxRecDepth 100000 in
theorem corbelref7_Platter_set.TS {C : FuncId → Bool} {X : CallF} (hX : XOk C X) (k : Nat) : TblS Try.prog C X (corbelref7_Platter_set.T k) := by
  refine tblOf_sound ?_
  intro e he
  exact absurd he List.not_mem_nil
set_option maxRecDepth 100000 in
theorem corbelref7_Platter_set.eq (k : Nat) (a : RT [.ptr, (.st [(.int .i64), .str])]) (h : H) : (fun a h => corbelref7_Platter_set.f k (a.1) (a.2) h) a h = kfun Try.prog (corbelref7_Platter_set.T k) (corbelref7_Platter_set.an k) (RT [] × H) Try.f57 (encL [.ptr, (.st [(.int .i64), .str])] a) h (fun vs h' => (decL [] vs).bind fun x => some (x, h')) := by kernel_rfl
set_option maxRecDepth 100000 in
theorem corbelref7_Platter_set.told {C : FuncId → Bool} {X : CallF} (hX : XOk C X) (k : Nat) : Den.Told Try.prog C X 57 [.ptr, (.st [(.int .i64), .str])] [] (fun a h => corbelref7_Platter_set.f k (a.1) (a.2) h) :=
  told_of fun a h q e => fn_of (c := corbelref7_Platter_set.body) (corbelref7_Platter_set.TS hX k) Try.func57 (by kernel_rfl) (hX.no 57 _ h (by decide))
    (by
      have e : need (corbelref7_Platter_set.an k) corbelref7_Platter_set.body 1 = [] := by kernel_rfl
      rw [e]; intro q hq; cases hq)
    ((corbelref7_Platter_set.eq k a h).symm.trans e)
/-! ### (*corbel/corbelref7.Platter).Flush -/
noncomputable def corbelref7_Platter_Flush.l0 (k : Nat) (n : Nat) : (Option Addr) → Int → H → Option ((Unit) × H) :=
  Nat.rec (motive := fun _ => (Option Addr) → Int → H → Option ((Unit) × H)) (fun _ _ _ => none) (fun _ ih x1 x2 h3 => (asP (nilA (Value.pointer x1))).bind fun p4 =>
    (asP (fadd 1 p4)).bind fun p5 =>
    (asS (ldc h3 p5)).bind fun s6 =>
    cond (decide (x2 < (Int.ofNat s6.n)))
      ((asP (nilA (Value.pointer x1))).bind fun p7 =>
    (asP (fadd 1 p7)).bind fun p8 =>
    (asS (ldc h3 p8)).bind fun s9 =>
    (asP (ixs 2 s9.a s9.n x2)).bind fun p10 =>
    (asSt [(.int .i64), .str] (lda 2 h3 p10)).bind fun s11 =>
    (corbelref7_Platter_set.f k x1 (s11.1, s11.2) h3).bind fun q12 =>
    ih x1 (wrapA .i64 (x2 + (1 : Int))) q12.2)
      (some ((), h3))) n
theorem corbelref7_Platter_Flush.l0_zero (k : Nat) (x1 : Option Addr) (x2 : Int) (h3 : H) : corbelref7_Platter_Flush.l0 k 0 x1 x2 h3 = none := rfl
theorem corbelref7_Platter_Flush.l0_succ (k n : Nat) (x1 : Option Addr) (x2 : Int) (h3 : H) : corbelref7_Platter_Flush.l0 k (n + 1) x1 x2 h3 = ((asP (nilA (Value.pointer x1))).bind fun p4 =>
    (asP (fadd 1 p4)).bind fun p5 =>
    (asS (ldc h3 p5)).bind fun s6 =>
    cond (decide (x2 < (Int.ofNat s6.n)))
      ((asP (nilA (Value.pointer x1))).bind fun p7 =>
    (asP (fadd 1 p7)).bind fun p8 =>
    (asS (ldc h3 p8)).bind fun s9 =>
    (asP (ixs 2 s9.a s9.n x2)).bind fun p10 =>
    (asSt [(.int .i64), .str] (lda 2 h3 p10)).bind fun s11 =>
    (corbelref7_Platter_set.f k x1 (s11.1, s11.2) h3).bind fun q12 =>
    corbelref7_Platter_Flush.l0 k n x1 (wrapA .i64 (x2 + (1 : Int))) q12.2)
      (some ((), h3))) := rfl
noncomputable def corbelref7_Platter_Flush.f (k : Nat) (a0 : Option Addr) (h : H) : Option ((Unit) × H) :=
  (corbelref7_Platter_Flush.l0 k k a0 (0 : Int) h).bind fun w13 =>
    (asP (nilA (Value.pointer a0))).bind fun p14 =>
    (asP (fadd 1 p14)).bind fun p15 =>
    (stv 1 w13.2 p15 [(Value.slice none 0 0)]).bind fun q16 =>
    some ((), q16.2)
noncomputable def corbelref7_Platter_Flush.T (k : Nat) : Tbl := tblOf [⟨57, anyArgs, wr [.ptr, (.st [(.int .i64), .str])] [] (fun a h => corbelref7_Platter_set.f k (a.1) (a.2) h)⟩]
noncomputable def corbelref7_Platter_Flush.an (k : Nat) (p : Nat) : Option Ann := cond (Nat.beq p 10) (some (.pass [0] (lrun [(0, .ptr), (2, (.int .i64))] none [] 0 (fun a h => corbelref7_Platter_Flush.l0 k k (a.1) (a.2) h))))
  (none)
noncomputable def corbelref7_Platter_Flush.body : Code := (Try.f37.body).getD .skip
noncomputable def corbelref7_Platter_Flush.c10 : Code := cat corbelref7_Platter_Flush.body [0, 1, 0, 0]
set_option maxRecDepth 100000 in
theorem corbelref7_Platter_Flush.TS {C : FuncId → Bool} {X : CallF} (hX : XOk C X) (k : Nat) : TblS Try.prog C X (corbelref7_Platter_Flush.T k) := by
  refine tblOf_sound ?_
  intro e he
  rcases List.mem_cons.1 he with rfl | he
  · exact wr_told (corbelref7_Platter_set.told hX k)
  exact absurd he List.not_mem_nil
set_option maxRecDepth 100000 in
theorem corbelref7_Platter_Flush.l0_pass {C : FuncId → Bool} {X : CallF} (hX : XOk C X) (k n : Nat) : PassS Try.prog C X 24 (.loop corbelref7_Platter_Flush.c10) (lrun [(0, .ptr), (2, (.int .i64))] none [] 0 (fun a h => corbelref7_Platter_Flush.l0 k n (a.1) (a.2) h)) :=
  loop_pass (ins := [(0, .ptr), (2, (.int .i64))]) (rets := none) (outs := []) (id := 0) (tbl := corbelref7_Platter_Flush.T k) (an := corbelref7_Platter_Flush.an k) (pb := 20) (corbelref7_Platter_Flush.TS hX k) (fun n => (fun a h => corbelref7_Platter_Flush.l0 k n (a.1) (a.2) h)) (fun a h => rfl) (fun n a h => by kernel_rfl)
    (by
      have e : need (corbelref7_Platter_Flush.an k) corbelref7_Platter_Flush.c10 20 = [] := by kernel_rfl
      rw [e]; intro q hq; cases hq) n
set_option maxRecDepth 100000 in
theorem corbelref7_Platter_Flush.eq (k : Nat) (a : RT [.ptr]) (h : H) : (fun a h => corbelref7_Platter_Flush.f k a h) a h = kfun Try.prog (corbelref7_Platter_Flush.T k) (corbelref7_Platter_Flush.an k) (RT [] × H) Try.f37 (encL [.ptr] a) h (fun vs h' => (decL [] vs).bind fun x => some (x, h')) := by kernel_rfl
set_option maxRecDepth 100000 in
theorem corbelref7_Platter_Flush.told {C : FuncId → Bool} {X : CallF} (hX : XOk C X) (k : Nat) : Den.Told Try.prog C X 37 [.ptr] [] (fun a h => corbelref7_Platter_Flush.f k a h) :=
  told_of fun a h q e => fn_of (c := corbelref7_Platter_Flush.body) (corbelref7_Platter_Flush.TS hX k) Try.func37 (by kernel_rfl) (hX.no 37 _ h (by decide))
    (by
      have e : need (corbelref7_Platter_Flush.an k) corbelref7_Platter_Flush.body 1 = [(Code.loop corbelref7_Platter_Flush.c10, lrun [(0, .ptr), (2, (.int .i64))] none [] 0 (fun a h => corbelref7_Platter_Flush.l0 k k (a.1) (a.2) h))] := by kernel_rfl
      rw [e]; intro q hq
      rcases List.mem_cons.1 hq with rfl | hq
      · exact corbelref7_Platter_Flush.l0_pass hX k k
      cases hq)
    ((corbelref7_Platter_Flush.eq k a h).symm.trans e)
/-! ### corbel/corbelref7.in -/
noncomputable def corbelref7_in.l0 (k : Nat) (n : Nat) : Sl → Int → Int → H → Option (((Bool) ⊕ (Unit)) × H) :=
  Nat.rec (motive := fun _ => Sl → Int → Int → H → Option (((Bool) ⊕ (Unit)) × H)) (fun _ _ _ _ => none) (fun _ ih x1 x2 x3 h4 => cond (decide (x3 < (Int.ofNat x1.n)))
      ((asP (ixs 1 x1.a x1.n x3)).bind fun p5 =>
    (asI .i64 (ldc h4 p5)).bind fun n6 =>
    cond (n6 == x2)
      (some (Sum.inl true, h4))
      (ih x1 x2 (wrapA .i64 (x3 + (1 : Int))) h4))
      (some (Sum.inr (), h4))) n
theorem corbelref7_in.l0_zero (k : Nat) (x1 : Sl) (x2 : Int) (x3 : Int) (h4 : H) : corbelref7_in.l0 k 0 x1 x2 x3 h4 = none := rfl
theorem corbelref7_in.l0_succ (k n : Nat) (x1 : Sl) (x2 : Int) (x3 : Int) (h4 : H) : corbelref7_in.l0 k (n + 1) x1 x2 x3 h4 = (cond (decide (x3 < (Int.ofNat x1.n)))
      ((asP (ixs 1 x1.a x1.n x3)).bind fun p5 =>
    (asI .i64 (ldc h4 p5)).bind fun n6 =>
    cond (n6 == x2)
      (some (Sum.inl true, h4))
      (corbelref7_in.l0 k n x1 x2 (wrapA .i64 (x3 + (1 : Int))) h4))
      (some (Sum.inr (), h4))) := rfl
noncomputable def corbelref7_in.f (k : Nat) (a0 : Sl) (a1 : Int) (h : H) : Option ((Bool) × H) :=
  (corbelref7_in.l0 k k a0 a1 (0 : Int) h).bind fun w7 =>
    match w7.1 with
    | .inl r8 => some (r8, w7.2)
    | .inr o9 => some (false, w7.2)
noncomputable def corbelref7_in.T (k : Nat) : Tbl := tblOf []
noncomputable def corbelref7_in.an (k : Nat) (p : Nat) : Option Ann := cond (Nat.beq p 26) (some (.pass [] (lrun [(0, .sl), (1, (.int .i64)), (5, (.int .i64))] (some [(4, .bool)]) [] 0 (fun a h => corbelref7_in.l0 k k (a.1) (a.2.1) (a.2.2) h))))
  (none)
noncomputable def corbelref7_in.body : Code := (Try.f58.body).getD .skip
noncomputable def corbelref7_in.c26 : Code := cat corbelref7_in.body [1, 0, 1, 0, 0]
set_option maxRecDepth 100000 in
theorem corbelref7_in.TS {C : FuncId → Bool} {X : CallF} (hX : XOk C X) (k : Nat) : TblS Try.prog C X (corbelref7_in.T k) := by
  refine tblOf_sound ?_
  intro e he
  exact absurd he List.not_mem_nil
set_option maxRecDepth 100000 in
theorem corbelref7_in.l0_pass {C : FuncId → Bool} {X : CallF} (hX : XOk C X) (k n : Nat) : PassS Try.prog C X 18 (.loop corbelref7_in.c26) (lrun [(0, .sl), (1, (.int .i64)), (5, (.int .i64))] (some [(4, .bool)]) [] 0 (fun a h => corbelref7_in.l0 k n (a.1) (a.2.1) (a.2.2) h)) :=
  loop_pass (ins := [(0, .sl), (1, (.int .i64)), (5, (.int .i64))]) (rets := (some [(4, .bool)])) (outs := []) (id := 0) (tbl := corbelref7_in.T k) (an := corbelref7_in.an k) (pb := 52) (corbelref7_in.TS hX k) (fun n => (fun a h => corbelref7_in.l0 k n (a.1) (a.2.1) (a.2.2) h)) (fun a h => rfl) (fun n a h => by kernel_rfl)
    (by
      have e : need (corbelref7_in.an k) corbelref7_in.c26 52 = [] := by kernel_rfl
      rw [e]; intro q hq; cases hq) n
set_option maxRecDepth 100000 in
theorem corbelref7_in.eq (k : Nat) (a : RT [.sl, (.int .i64)]) (h : H) : (fun a h => corbelref7_in.f k (a.1) (a.2) h) a h = kfun Try.prog (corbelref7_in.T k) (corbelref7_in.an k) (RT [.bool] × H) Try.f58 (encL [.sl, (.int .i64)] a) h (fun vs h' => (decL [.bool] vs).bind fun x => some (x, h')) := by kernel_rfl
set_option maxRecDepth 100000 in
theorem corbelref7_in.told {C : FuncId → Bool} {X : CallF} (hX : XOk C X) (k : Nat) : Den.Told Try.prog C X 58 [.sl, (.int .i64)] [.bool] (fun a h => corbelref7_in.f k (a.1) (a.2) h) :=
  told_of fun a h q e => fn_of (c := corbelref7_in.body) (corbelref7_in.TS hX k) Try.func58 (by kernel_rfl) (hX.no 58 _ h (by decide))
    (by
      have e : need (corbelref7_in.an k) corbelref7_in.body 1 = [(Code.loop corbelref7_in.c26, lrun [(0, .sl), (1, (.int .i64)), (5, (.int .i64))] (some [(4, .bool)]) [] 0 (fun a h => corbelref7_in.l0 k k (a.1) (a.2.1) (a.2.2) h))] := by kernel_rfl
      rw [e]; intro q hq
      rcases List.mem_cons.1 hq with rfl | hq
      · exact corbelref7_in.l0_pass hX k k
      cases hq)
    ((corbelref7_in.eq k a h).symm.trans e)
/-! ### (*corbel/corbelref7.Platter).Crash -/
noncomputable def corbelref7_Platter_Crash.l0 (k : Nat) (n : Nat) : (Option Addr) → Sl → Int → H → Option ((Unit) × H) :=
  Nat.rec (motive := fun _ => (Option Addr) → Sl → Int → H → Option ((Unit) × H)) (fun _ _ _ _ => none) (fun _ ih x1 x2 x3 h4 => (asP (nilA (Value.pointer x1))).bind fun p5 =>
    (asP (fadd 1 p5)).bind fun p6 =>
    (asS (ldc h4 p6)).bind fun s7 =>
    cond (decide (x3 < (Int.ofNat s7.n)))
      ((corbelref7_in.f k x2 x3 h4).bind fun q8 =>
    (cond q8.1
      ((asP (nilA (Value.pointer x1))).bind fun p9 =>
    (asP (fadd 1 p9)).bind fun p10 =>
    (asS (ldc q8.2 p10)).bind fun s11 =>
    (asP (ixs 2 s11.a s11.n x3)).bind fun p12 =>
    (asSt [(.int .i64), .str] (lda 2 q8.2 p12)).bind fun s13 =>
    (corbelref7_Platter_set.f k x1 (s13.1, s13.2) q8.2).bind fun q14 =>
    some ((), q14.2))
      (some ((), q8.2)) : Option ((Unit) × H)).bind fun j15 =>
    ih x1 x2 (wrapA .i64 (x3 + (1 : Int))) j15.2)
      (some ((), h4))) n
theorem corbelref7_Platter_Crash.l0_zero (k : Nat) (x1 : Option Addr) (x2 : Sl) (x3 : Int) (h4 : H) : corbelref7_Platter_Crash.l0 k 0 x1 x2 x3 h4 = none := rfl
theorem corbelref7_Platter_Crash.l0_succ (k n : Nat) (x1 : Option Addr) (x2 : Sl) (x3 : Int) (h4 : H) : corbelref7_Platter_Crash.l0 k (n + 1) x1 x2 x3 h4 = ((asP (nilA (Value.pointer x1))).bind fun p5 =>
    (asP (fadd 1 p5)).bind fun p6 =>
    (asS (ldc h4 p6)).bind fun s7 =>
    cond (decide (x3 < (Int.ofNat s7.n)))
      ((corbelref7_in.f k x2 x3 h4).bind fun q8 =>
    (cond q8.1
      ((asP (nilA (Value.pointer x1))).bind fun p9 =>
    (asP (fadd 1 p9)).bind fun p10 =>
    (asS (ldc q8.2 p10)).bind fun s11 =>
    (asP (ixs 2 s11.a s11.n x3)).bind fun p12 =>
    (asSt [(.int .i64), .str] (lda 2 q8.2 p12)).bind fun s13 =>
    (corbelref7_Platter_set.f k x1 (s13.1, s13.2) q8.2).bind fun q14 =>
    some ((), q14.2))
      (some ((), q8.2)) : Option ((Unit) × H)).bind fun j15 =>
    corbelref7_Platter_Crash.l0 k n x1 x2 (wrapA .i64 (x3 + (1 : Int))) j15.2)
      (some ((), h4))) := rfl
noncomputable def corbelref7_Platter_Crash.f (k : Nat) (a0 : Option Addr) (a1 : Sl) (h : H) : Option ((Unit) × H) :=
  (corbelref7_Platter_Crash.l0 k k a0 a1 (0 : Int) h).bind fun w16 =>
    (asP (nilA (Value.pointer a0))).bind fun p17 =>
    (asP (fadd 1 p17)).bind fun p18 =>
    (stv 1 w16.2 p18 [(Value.slice none 0 0)]).bind fun q19 =>
    some ((), q19.2)
noncomputable def corbelref7_Platter_Crash.T (k : Nat) : Tbl := tblOf [⟨58, anyArgs, wr [.sl, (.int .i64)] [.bool] (fun a h => corbelref7_in.f k (a.1) (a.2) h)⟩,
  ⟨57, anyArgs, wr [.ptr, (.st [(.int .i64), .str])] [] (fun a h => corbelref7_Platter_set.f k (a.1) (a.2) h)⟩]
noncomputable def corbelref7_Platter_Crash.an (k : Nat) (p : Nat) : Option Ann := cond (Nat.beq p 10) (some (.pass [0] (lrun [(0, .ptr), (1, .sl), (4, (.int .i64))] none [] 0 (fun a h => corbelref7_Platter_Crash.l0 k k (a.1) (a.2.1) (a.2.2) h))))
  (cond (Nat.beq p 329) (some (.join [0, 1, 4] none []))
  (none))
noncomputable def corbelref7_Platter_Crash.body : Code := (Try.f38.body).getD .skip
noncomputable def corbelref7_Platter_Crash.c10 : Code := cat corbelref7_Platter_Crash.body [0, 1, 0, 0]
set_option maxRecDepth 100000 in
theorem corbelref7_Platter_Crash.TS {C : FuncId → Bool} {X : CallF} (hX : XOk C X) (k : Nat) : TblS Try.prog C X (corbelref7_Platter_Crash.T k) := by
  refine tblOf_sound ?_
  intro e he
  rcases List.mem_cons.1 he with rfl | he
  · exact wr_told (corbelref7_in.told hX k)
  rcases List.mem_cons.1 he with rfl | he
  · exact wr_told (corbelref7_Platter_set.told hX k)
  exact absurd he List.not_mem_nil
set_option maxRecDepth 100000 in
theorem corbelref7_Platter_Crash.l0_pass {C : FuncId → Bool} {X : CallF} (hX : XOk C X) (k n : Nat) : PassS Try.prog C X 29 (.loop corbelref7_Platter_Crash.c10) (lrun [(0, .ptr), (1, .sl), (4, (.int .i64))] none [] 0 (fun a h => corbelref7_Platter_Crash.l0 k n (a.1) (a.2.1) (a.2.2) h)) :=
  loop_pass (ins := [(0, .ptr), (1, .sl), (4, (.int .i64))]) (rets := none) (outs := []) (id := 0) (tbl := corbelref7_Platter_Crash.T k) (an := corbelref7_Platter_Crash.an k) (pb := 20) (corbelref7_Platter_Crash.TS hX k) (fun n => (fun a h => corbelref7_Platter_Crash.l0 k n (a.1) (a.2.1) (a.2.2) h)) (fun a h => rfl) (fun n a h => by kernel_rfl)
    (by
      have e : need (corbelref7_Platter_Crash.an k) corbelref7_Platter_Crash.c10 20 = [] := by kernel_rfl
      rw [e]; intro q hq; cases hq) n
set_option maxRecDepth 100000 in
theorem corbelref7_Platter_Crash.eq (k : Nat) (a : RT [.ptr, .sl]) (h : H) : (fun a h => corbelref7_Platter_Crash.f k (a.1) (a.2) h) a h = kfun Try.prog (corbelref7_Platter_Crash.T k) (corbelref7_Platter_Crash.an k) (RT [] × H) Try.f38 (encL [.ptr, .sl] a) h (fun vs h' => (decL [] vs).bind fun x => some (x, h')) := by kernel_rfl
set_option maxRecDepth 100000 in
theorem corbelref7_Platter_Crash.told {C : FuncId → Bool} {X : CallF} (hX : XOk C X) (k : Nat) : Den.Told Try.prog C X 38 [.ptr, .sl] [] (fun a h => corbelref7_Platter_Crash.f k (a.1) (a.2) h) :=
  told_of fun a h q e => fn_of (c := corbelref7_Platter_Crash.body) (corbelref7_Platter_Crash.TS hX k) Try.func38 (by kernel_rfl) (hX.no 38 _ h (by decide))
    (by
      have e : need (corbelref7_Platter_Crash.an k) corbelref7_Platter_Crash.body 1 = [(Code.loop corbelref7_Platter_Crash.c10, lrun [(0, .ptr), (1, .sl), (4, (.int .i64))] none [] 0 (fun a h => corbelref7_Platter_Crash.l0 k k (a.1) (a.2.1) (a.2.2) h))] := by kernel_rfl
      rw [e]; intro q hq
      rcases List.mem_cons.1 hq with rfl | hq
      · exact corbelref7_Platter_Crash.l0_pass hX k k
      cases hq)
    ((corbelref7_Platter_Crash.eq k a h).symm.trans e)
/-! ### (*corbel/corbelref7.Platter).Wipe -/
noncomputable def corbelref7_Platter_Wipe.l0 (k : Nat) (n : Nat) : (Option Addr) → Int → H → Option ((Unit) × H) :=
  Nat.rec (motive := fun _ => (Option Addr) → Int → H → Option ((Unit) × H)) (fun _ _ _ => none) (fun _ ih x1 x2 h3 => (asP (nilA (Value.pointer x1))).bind fun p4 =>
    (asP (fadd 0 p4)).bind fun p5 =>
    (asS (ldc h3 p5)).bind fun s6 =>
    cond (decide (x2 < (Int.ofNat s6.n)))
      ((asT (txt (newZ h3 5 1 [(Value.int .u8 (0 : Int))] 160) (Value.slice (some ⟨h3.next, 0, none⟩) 160 160))).bind fun s7 =>
    (corbelref7_Platter_set.f k x1 (x2, s7) (newZ h3 5 1 [(Value.int .u8 (0 : Int))] 160)).bind fun q8 =>
    ih x1 (wrapA .i64 (x2 + (1 : Int))) q8.2)
      (some ((), h3))) n
theorem corbelref7_Platter_Wipe.l0_zero (k : Nat) (x1 : Option Addr) (x2 : Int) (h3 : H) : corbelref7_Platter_Wipe.l0 k 0 x1 x2 h3 = none := rfl
theorem corbelref7_Platter_Wipe.l0_succ (k n : Nat) (x1 : Option Addr) (x2 : Int) (h3 : H) : corbelref7_Platter_Wipe.l0 k (n + 1) x1 x2 h3 = ((asP (nilA (Value.pointer x1))).bind fun p4 =>
    (asP (fadd 0 p4)).bind fun p5 =>
    (asS (ldc h3 p5)).bind fun s6 =>
    cond (decide (x2 < (Int.ofNat s6.n)))
      ((asT (txt (newZ h3 5 1 [(Value.int .u8 (0 : Int))] 160) (Value.slice (some ⟨h3.next, 0, none⟩) 160 160))).bind fun s7 =>
    (corbelref7_Platter_set.f k x1 (x2, s7) (newZ h3 5 1 [(Value.int .u8 (0 : Int))] 160)).bind fun q8 =>
    corbelref7_Platter_Wipe.l0 k n x1 (wrapA .i64 (x2 + (1 : Int))) q8.2)
      (some ((), h3))) := rfl
noncomputable def corbelref7_Platter_Wipe.f (k : Nat) (a0 : Option Addr) (h : H) : Option ((Unit) × H) :=
  (corbelref7_Platter_Wipe.l0 k k a0 (0 : Int) h).bind fun w9 =>
    (asP (nilA (Value.pointer a0))).bind fun p10 =>
    (asP (fadd 1 p10)).bind fun p11 =>
    (stv 1 w9.2 p11 [(Value.slice none 0 0)]).bind fun q12 =>
    some ((), q12.2)
noncomputable def corbelref7_Platter_Wipe.T (k : Nat) : Tbl := tblOf [⟨57, anyArgs, wr [.ptr, (.st [(.int .i64), .str])] [] (fun a h => corbelref7_Platter_set.f k (a.1) (a.2) h)⟩]
noncomputable def corbelref7_Platter_Wipe.an (k : Nat) (p : Nat) : Option Ann := cond (Nat.beq p 10) (some (.pass [0] (lrun [(0, .ptr), (2, (.int .i64))] none [] 0 (fun a h => corbelref7_Platter_Wipe.l0 k k (a.1) (a.2) h))))
  (none)
noncomputable def corbelref7_Platter_Wipe.body : Code := (Try.f39.body).getD .skip
noncomputable def corbelref7_Platter_Wipe.c10 : Code := cat corbelref7_Platter_Wipe.body [0, 1, 0, 0]
set_option maxRecDepth 100000 in
theorem corbelref7_Platter_Wipe.TS {C : FuncId → Bool} {X : CallF} (hX : XOk C X) (k : Nat) : TblS Try.prog C X (corbelref7_Platter_Wipe.T k) := by
  refine tblOf_sound ?_
  intro e he
  rcases List.mem_cons.1 he with rfl | he
  · exact wr_told (corbelref7_Platter_set.told hX k)
  exact absurd he List.not_mem_nil
set_option maxRecDepth 100000 in
theorem corbelref7_Platter_Wipe.l0_pass {C : FuncId → Bool} {X : CallF} (hX : XOk C X) (k n : Nat) : PassS Try.prog C X 21 (.loop corbelref7_Platter_Wipe.c10) (lrun [(0, .ptr), (2, (.int .i64))] none [] 0 (fun a h => corbelref7_Platter_Wipe.l0 k n (a.1) (a.2) h)) :=
  loop_pass (ins := [(0, .ptr), (2, (.int .i64))]) (rets := none) (outs := []) (id := 0) (tbl := corbelref7_Platter_Wipe.T k) (an := corbelref7_Platter_Wipe.an k) (pb := 20) (corbelref7_Platter_Wipe.TS hX k) (fun n => (fun a h => corbelref7_Platter_Wipe.l0 k n (a.1) (a.2) h)) (fun a h => rfl) (fun n a h => by kernel_rfl)
    (by
      have e : need (corbelref7_Platter_Wipe.an k) corbelref7_Platter_Wipe.c10 20 = [] := by kernel_rfl
      rw [e]; intro q hq; cases hq) n
set_option maxRecDepth 100000 in
theorem corbelref7_Platter_Wipe.eq (k : Nat) (a : RT [.ptr]) (h : H) : (fun a h => corbelref7_Platter_Wipe.f k a h) a h = kfun Try.prog (corbelref7_Platter_Wipe.T k) (corbelref7_Platter_Wipe.an k) (RT [] × H) Try.f39 (encL [.ptr] a) h (fun vs h' => (decL [] vs).bind fun x => some (x, h')) := by kernel_rfl
set_option maxRecDepth 100000 in
theorem corbelref7_Platter_Wipe.told {C : FuncId → Bool} {X : CallF} (hX : XOk C X) (k : Nat) : Den.Told Try.prog C X 39 [.ptr] [] (fun a h => corbelref7_Platter_Wipe.f k a h) :=
  told_of fun a h q e => fn_of (c := corbelref7_Platter_Wipe.body) (corbelref7_Platter_Wipe.TS hX k) Try.func39 (by kernel_rfl) (hX.no 39 _ h (by decide))
    (by
      have e : need (corbelref7_Platter_Wipe.an k) corbelref7_Platter_Wipe.body 1 = [(Code.loop corbelref7_Platter_Wipe.c10, lrun [(0, .ptr), (2, (.int .i64))] none [] 0 (fun a h => corbelref7_Platter_Wipe.l0 k k (a.1) (a.2) h))] := by kernel_rfl
      rw [e]; intro q hq
      rcases List.mem_cons.1 hq with rfl | hq
      · exact corbelref7_Platter_Wipe.l0_pass hX k k
      cases hq)
    ((corbelref7_Platter_Wipe.eq k a h).symm.trans e)
/-! ### (*corbel/corbelref7.Platter).Write -/
noncomputable def corbelref7_Platter_Write.f (k : Nat) (a0 : Option Addr) (a1 : Int) (a2 : Sl) (h : H) : Option ((Bool) × H) :=
  (cond (decide (a1 < (0 : Int))) (some (true, h))
      ((asP (nilA (Value.pointer a0))).bind fun p1 =>
    (asP (fadd 0 p1)).bind fun p2 =>
    (asS (ldc h p2)).bind fun s3 =>
    some (decide (a1 ≥ (Int.ofNat s3.n)), h))).bind fun g4 =>
    (cond g4.1 (some (true, g4.2))
      (some ((Int.ofNat a2.n) != (160 : Int), g4.2))).bind fun g5 =>
    cond g5.1
      (some (false, g5.2))
      ((asP (nilA (Value.pointer a0))).bind fun p6 =>
    (asP (fadd 1 p6)).bind fun p7 =>
    (asS (ldc (newR g5.2 67 2 []) p7)).bind fun s8 =>
    (asS2 (apv 67 2 24 (Value.slice (some ⟨g5.2.next, 0, none⟩) 0 0) (Value.slice s8.a s8.n s8.c) (newR g5.2 67 2 []))).bind fun q9 =>
    (asT (txt q9.2 (Value.slice a2.a a2.n a2.c))).bind fun s10 =>
    (asS2 (apv 67 2 24 (Value.slice q9.1.a q9.1.n q9.1.c) (Value.slice (some ⟨q9.2.next, 0, none⟩) 1 1) (newR q9.2 67 2 [(Value.int .i64 a1), (Value.string s10)]))).bind fun q11 =>
    (asP (nilA (Value.pointer a0))).bind fun p12 =>
    (asP (fadd 1 p12)).bind fun p13 =>
    (stv 1 q11.2 p13 [(Value.slice q11.1.a q11.1.n q11.1.c)]).bind fun q14 =>
    cond (same1 (newR g5.2 67 2 []) q9.2 (some (Value.slice a2.a a2.n a2.c)) && (true)) ((asP (nilA (Value.pointer a0))).bind fun p15 =>
    (asP (fadd 2 p15)).bind fun p16 =>
    (asI .i64 (ldc q14.2 p16)).bind fun n17 =>
    (asP (nilA (Value.pointer a0))).bind fun p18 =>
    (asP (fadd 2 p18)).bind fun p19 =>
    (stv 1 q14.2 p19 [(Value.int .i64 (wrapA .i64 (n17 + (1 : Int))))]).bind fun q20 =>
    some (true, q20.2)) none)
noncomputable def corbelref7_Platter_Write.T (k : Nat) : Tbl := tblOf []
noncomputable def corbelref7_Platter_Write.an (k : Nat) (p : Nat) : Option Ann := none
noncomputable def corbelref7_Platter_Write.body : Code := (Try.f40.body).getD .skip
set_option maxRecDepth 100000 in
theorem corbelref7_Platter_Write.TS {C : FuncId → Bool} {X : CallF} (hX : XOk C X) (k : Nat) : TblS Try.prog C X (corbelref7_Platter_Write.T k) := by
  refine tblOf_sound ?_
  intro e he
  exact absurd he List.not_mem_nil
set_option maxRecDepth 100000 in
theorem corbelref7_Platter_Write.eq (k : Nat) (a : RT [.ptr, (.int .i64), .sl]) (h : H) : (fun a h => corbelref7_Platter_Write.f k (a.1) (a.2.1) (a.2.2) h) a h = kfun Try.prog (corbelref7_Platter_Write.T k) (corbelref7_Platter_Write.an k) (RT [.bool] × H) Try.f40 (encL [.ptr, (.int .i64), .sl] a) h (fun vs h' => (decL [.bool] vs).bind fun x => some (x, h')) := by kernel_rfl
set_option maxRecDepth 100000 in
theorem corbelref7_Platter_Write.told {C : FuncId → Bool} {X : CallF} (hX : XOk C X) (k : Nat) : Den.Told Try.prog C X 40 [.ptr, (.int .i64), .sl] [.bool] (fun a h => corbelref7_Platter_Write.f k (a.1) (a.2.1) (a.2.2) h) :=
  told_of fun a h q e => fn_of (c := corbelref7_Platter_Write.body) (corbelref7_Platter_Write.TS hX k) Try.func40 (by kernel_rfl) (hX.no 40 _ h (by decide))
    (by
      have e : need (corbelref7_Platter_Write.an k) corbelref7_Platter_Write.body 1 = [] := by kernel_rfl
      rw [e]; intro q hq; cases hq)
    ((corbelref7_Platter_Write.eq k a h).symm.trans e)
/-! ### (*corbel/corbelref7.Platter).Read -/
noncomputable def corbelref7_Platter_Read.l0 (k : Nat) (n : Nat) : (Option Addr) → Int → ByteArray → Int → H → Option ((ByteArray) × H) :=
  Nat.rec (motive := fun _ => (Option Addr) → Int → ByteArray → Int → H → Option ((ByteArray) × H)) (fun _ _ _ _ _ => none) (fun _ ih x6 x7 x8 x9 h10 => (asP (nilA (Value.pointer x6))).bind fun p11 =>
    (asP (fadd 1 p11)).bind fun p12 =>
    (asS (ldc h10 p12)).bind fun s13 =>
    cond (decide (x9 < (Int.ofNat s13.n)))
      ((asP (nilA (Value.pointer x6))).bind fun p14 =>
    (asP (fadd 1 p14)).bind fun p15 =>
    (asS (ldc h10 p15)).bind fun s16 =>
    (asP (ixs 2 s16.a s16.n x9)).bind fun p17 =>
    (asP (fadd 0 p17)).bind fun p18 =>
    (asI .i64 (ldc h10 p18)).bind fun n19 =>
    (cond (n19 == x7)
      ((asP (nilA (Value.pointer x6))).bind fun p20 =>
    (asP (fadd 1 p20)).bind fun p21 =>
    (asS (ldc h10 p21)).bind fun s22 =>
    (asP (ixs 2 s22.a s22.n x9)).bind fun p23 =>
    (asP (fadd 1 p23)).bind fun p24 =>
    (asT (ldc h10 p24)).bind fun s25 =>
    some (s25, h10))
      (some (x8, h10)) : Option ((ByteArray) × H)).bind fun j26 =>
    ih x6 x7 j26.1 (wrapA .i64 (x9 + (1 : Int))) j26.2)
      (some (x8, h10))) n
theorem corbelref7_Platter_Read.l0_zero (k : Nat) (x6 : Option Addr) (x7 : Int) (x8 : ByteArray) (x9 : Int) (h10 : H) : corbelref7_Platter_Read.l0 k 0 x6 x7 x8 x9 h10 = none := rfl
theorem corbelref7_Platter_Read.l0_succ (k n : Nat) (x6 : Option Addr) (x7 : Int) (x8 : ByteArray) (x9 : Int) (h10 : H) : corbelref7_Platter_Read.l0 k (n + 1) x6 x7 x8 x9 h10 = ((asP (nilA (Value.pointer x6))).bind fun p11 =>
    (asP (fadd 1 p11)).bind fun p12 =>
    (asS (ldc h10 p12)).bind fun s13 =>
    cond (decide (x9 < (Int.ofNat s13.n)))
      ((asP (nilA (Value.pointer x6))).bind fun p14 =>
    (asP (fadd 1 p14)).bind fun p15 =>
    (asS (ldc h10 p15)).bind fun s16 =>
    (asP (ixs 2 s16.a s16.n x9)).bind fun p17 =>
    (asP (fadd 0 p17)).bind fun p18 =>
    (asI .i64 (ldc h10 p18)).bind fun n19 =>
    (cond (n19 == x7)
      ((asP (nilA (Value.pointer x6))).bind fun p20 =>
    (asP (fadd 1 p20)).bind fun p21 =>
    (asS (ldc h10 p21)).bind fun s22 =>
    (asP (ixs 2 s22.a s22.n x9)).bind fun p23 =>
    (asP (fadd 1 p23)).bind fun p24 =>
    (asT (ldc h10 p24)).bind fun s25 =>
    some (s25, h10))
      (some (x8, h10)) : Option ((ByteArray) × H)).bind fun j26 =>
    corbelref7_Platter_Read.l0 k n x6 x7 j26.1 (wrapA .i64 (x9 + (1 : Int))) j26.2)
      (some (x8, h10))) := rfl
noncomputable def corbelref7_Platter_Read.f (k : Nat) (a0 : Option Addr) (a1 : Int) (h : H) : Option ((ByteArray) × H) :=
  (asP (nilA (Value.pointer a0))).bind fun p1 =>
    (asP (fadd 0 p1)).bind fun p2 =>
    (asS (ldc h p2)).bind fun s3 =>
    (asP (ixs 1 s3.a s3.n a1)).bind fun p4 =>
    (asT (ldc h p4)).bind fun s5 =>
    (corbelref7_Platter_Read.l0 k k a0 a1 s5 (0 : Int) h).bind fun w27 =>
    some (w27.1, w27.2)
noncomputable def corbelref7_Platter_Read.T (k : Nat) : Tbl := tblOf []
noncomputable def corbelref7_Platter_Read.an (k : Nat) (p : Nat) : Option Ann := cond (Nat.beq p 58) (some (.pass [] (lrun [(0, .ptr), (1, (.int .i64)), (5, .str), (6, (.int .i64))] none [(5, .str)] 0 (fun a h => corbelref7_Platter_Read.l0 k k (a.1) (a.2.1) (a.2.2.1) (a.2.2.2) h))))
  (cond (Nat.beq p 1865) (some (.join [0, 1, 6] none [(5, .str)]))
  (none))
noncomputable def corbelref7_Platter_Read.body : Code := (Try.f41.body).getD .skip
noncomputable def corbelref7_Platter_Read.c58 : Code := cat corbelref7_Platter_Read.body [1, 1, 0, 1, 0, 0]
set_option maxRecDepth 100000 in
theorem corbelref7_Platter_Read.TS {C : FuncId → Bool} {X : CallF} (hX : XOk C X) (k : Nat) : TblS Try.prog C X (corbelref7_Platter_Read.T k) := by
  refine tblOf_sound ?_
  intro e he
  exact absurd he List.not_mem_nil
set_option maxRecDepth 100000 in
theorem corbelref7_Platter_Read.l0_pass {C : FuncId → Bool} {X : CallF} (hX : XOk C X) (k n : Nat) : PassS Try.prog C X 42 (.loop corbelref7_Platter_Read.c58) (lrun [(0, .ptr), (1, (.int .i64)), (5, .str), (6, (.int .i64))] none [(5, .str)] 0 (fun a h => corbelref7_Platter_Read.l0 k n (a.1) (a.2.1) (a.2.2.1) (a.2.2.2) h)) :=
  loop_pass (ins := [(0, .ptr), (1, (.int .i64)), (5, .str), (6, (.int .i64))]) (rets := none) (outs := [(5, .str)]) (id := 0) (tbl := corbelref7_Platter_Read.T k) (an := corbelref7_Platter_Read.an k) (pb := 116) (corbelref7_Platter_Read.TS hX k) (fun n => (fun a h => corbelref7_Platter_Read.l0 k n (a.1) (a.2.1) (a.2.2.1) (a.2.2.2) h)) (fun a h => rfl) (fun n a h => by kernel_rfl)
    (by
      have e : need (corbelref7_Platter_Read.an k) corbelref7_Platter_Read.c58 116 = [] := by kernel_rfl
      rw [e]; intro q hq; cases hq) n
set_option maxRecDepth 100000 in
theorem corbelref7_Platter_Read.eq (k : Nat) (a : RT [.ptr, (.int .i64)]) (h : H) : (fun a h => corbelref7_Platter_Read.f k (a.1) (a.2) h) a h = kfun Try.prog (corbelref7_Platter_Read.T k) (corbelref7_Platter_Read.an k) (RT [.str] × H) Try.f41 (encL [.ptr, (.int .i64)] a) h (fun vs h' => (decL [.str] vs).bind fun x => some (x, h')) := by kernel_rfl
set_option maxRecDepth 100000 in
theorem corbelref7_Platter_Read.told {C : FuncId → Bool} {X : CallF} (hX : XOk C X) (k : Nat) : Den.Told Try.prog C X 41 [.ptr, (.int .i64)] [.str] (fun a h => corbelref7_Platter_Read.f k (a.1) (a.2) h) :=
  told_of fun a h q e => fn_of (c := corbelref7_Platter_Read.body) (corbelref7_Platter_Read.TS hX k) Try.func41 (by kernel_rfl) (hX.no 41 _ h (by decide))
    (by
      have e : need (corbelref7_Platter_Read.an k) corbelref7_Platter_Read.body 1 = [(Code.loop corbelref7_Platter_Read.c58, lrun [(0, .ptr), (1, (.int .i64)), (5, .str), (6, (.int .i64))] none [(5, .str)] 0 (fun a h => corbelref7_Platter_Read.l0 k k (a.1) (a.2.1) (a.2.2.1) (a.2.2.2) h))] := by kernel_rfl
      rw [e]; intro q hq
      rcases List.mem_cons.1 hq with rfl | hq
      · exact corbelref7_Platter_Read.l0_pass hX k k
      cases hq)
    ((corbelref7_Platter_Read.eq k a h).symm.trans e)
/-! ### corbel/corbellaw7.all -/
noncomputable def corbellaw7_all.l0 (k : Nat) (n : Nat) : Int → Sl → Int → Int → H → Option ((Unit) × H) :=
  Nat.rec (motive := fun _ => Int → Sl → Int → Int → H → Option ((Unit) × H)) (fun _ _ _ _ _ => none) (fun _ ih x1 x2 x3 x4 h5 => cond (decide (x4 < x3))
      ((asP (ixs 1 x2.a x2.n x4)).bind fun p6 =>
    (stv 1 h5 p6 [(Value.int .u8 (wrapA .u8 x1))]).bind fun q7 =>
    ih x1 x2 x3 (wrapA .i64 (x4 + (1 : Int))) q7.2)
      (some ((), h5))) n
theorem corbellaw7_all.l0_zero (k : Nat) (x1 : Int) (x2 : Sl) (x3 : Int) (x4 : Int) (h5 : H) : corbellaw7_all.l0 k 0 x1 x2 x3 x4 h5 = none := rfl
theorem corbellaw7_all.l0_succ (k n : Nat) (x1 : Int) (x2 : Sl) (x3 : Int) (x4 : Int) (h5 : H) : corbellaw7_all.l0 k (n + 1) x1 x2 x3 x4 h5 = (cond (decide (x4 < x3))
      ((asP (ixs 1 x2.a x2.n x4)).bind fun p6 =>
    (stv 1 h5 p6 [(Value.int .u8 (wrapA .u8 x1))]).bind fun q7 =>
    corbellaw7_all.l0 k n x1 x2 x3 (wrapA .i64 (x4 + (1 : Int))) q7.2)
      (some ((), h5))) := rfl
noncomputable def corbellaw7_all.f (k : Nat) (a0 : Int) (h : H) : Option ((Sl) × H) :=
  (corbellaw7_all.l0 k k a0 (⟨(some ⟨h.next, 0, none⟩), 160, 160⟩ : Sl) (Int.ofNat 160) (0 : Int) (newZ h 5 1 [(Value.int .u8 (0 : Int))] 160)).bind fun w8 =>
    some ((⟨(some ⟨h.next, 0, none⟩), 160, 160⟩ : Sl), w8.2)
noncomputable def corbellaw7_all.T (k : Nat) : Tbl := tblOf []
noncomputable def corbellaw7_all.an (k : Nat) (p : Nat) : Option Ann := cond (Nat.beq p 58) (some (.pass [3] (lrun [(0, (.int .i64)), (3, .sl), (7, (.int .i64)), (8, (.int .i64))] none [] 0 (fun a h => corbellaw7_all.l0 k k (a.1) (a.2.1) (a.2.2.1) (a.2.2.2) h))))
  (none)
noncomputable def corbellaw7_all.body : Code := (Try.f27.body).getD .skip
noncomputable def corbellaw7_all.c58 : Code := cat corbellaw7_all.body [1, 1, 0, 1, 0, 0]
set_option maxRecDepth 100000 in
theorem corbellaw7_all.TS {C : FuncId → Bool} {X : CallF} (hX : XOk C X) (k : Nat) : TblS Try.prog C X (corbellaw7_all.T k) := by
  refine tblOf_sound ?_
  intro e he
  exact absurd he List.not_mem_nil
set_option maxRecDepth 100000 in
theorem corbellaw7_all.l0_pass {C : FuncId → Bool} {X : CallF} (hX : XOk C X) (k n : Nat) : PassS Try.prog C X 18 (.loop corbellaw7_all.c58) (lrun [(0, (.int .i64)), (3, .sl), (7, (.int .i64)), (8, (.int .i64))] none [] 0 (fun a h => corbellaw7_all.l0 k n (a.1) (a.2.1) (a.2.2.1) (a.2.2.2) h)) :=
  loop_pass (ins := [(0, (.int .i64)), (3, .sl), (7, (.int .i64)), (8, (.int .i64))]) (rets := none) (outs := []) (id := 0) (tbl := corbellaw7_all.T k) (an := corbellaw7_all.an k) (pb := 116) (corbellaw7_all.TS hX k) (fun n => (fun a h => corbellaw7_all.l0 k n (a.1) (a.2.1) (a.2.2.1) (a.2.2.2) h)) (fun a h => rfl) (fun n a h => by kernel_rfl)
    (by
      have e : need (corbellaw7_all.an k) corbellaw7_all.c58 116 = [] := by kernel_rfl
      rw [e]; intro q hq; cases hq) n
set_option maxRecDepth 100000 in
theorem corbellaw7_all.eq (k : Nat) (a : RT [(.int .i64)]) (h : H) : (fun a h => corbellaw7_all.f k a h) a h = kfun Try.prog (corbellaw7_all.T k) (corbellaw7_all.an k) (RT [.sl] × H) Try.f27 (encL [(.int .i64)] a) h (fun vs h' => (decL [.sl] vs).bind fun x => some (x, h')) := by kernel_rfl
set_option maxRecDepth 100000 in
theorem corbellaw7_all.told {C : FuncId → Bool} {X : CallF} (hX : XOk C X) (k : Nat) : Den.Told Try.prog C X 27 [(.int .i64)] [.sl] (fun a h => corbellaw7_all.f k a h) :=
  told_of fun a h q e => fn_of (c := corbellaw7_all.body) (corbellaw7_all.TS hX k) Try.func27 (by kernel_rfl) (hX.no 27 _ h (by decide))
    (by
      have e : need (corbellaw7_all.an k) corbellaw7_all.body 1 = [(Code.loop corbellaw7_all.c58, lrun [(0, (.int .i64)), (3, .sl), (7, (.int .i64)), (8, (.int .i64))] none [] 0 (fun a h => corbellaw7_all.l0 k k (a.1) (a.2.1) (a.2.2.1) (a.2.2.2) h))] := by kernel_rfl
      rw [e]; intro q hq
      rcases List.mem_cons.1 hq with rfl | hq
      · exact corbellaw7_all.l0_pass hX k k
      cases hq)
    ((corbellaw7_all.eq k a h).symm.trans e)
/-! ### corbel/corbelhand.Bytes -/
noncomputable def corbelhand_Bytes.l0 (k : Nat) (n : Nat) : Int → Sl → Int → Int → H → Option ((Unit) × H) :=
  Nat.rec (motive := fun _ => Int → Sl → Int → Int → H → Option ((Unit) × H)) (fun _ _ _ _ _ => none) (fun _ ih x3 x4 x5 x6 h7 => cond (decide (x6 < x3))
      ((asP (ixs 1 x4.a x4.n x6)).bind fun p8 =>
    (stv 1 h7 p8 [(Value.int .u8 (wrapA .u8 ((wrapA .u64 ((wrapA .u64 (x5 * (6364136223846793005 : Int))) + (1442695040888963407 : Int))).fdiv (2 ^ 56))))]).bind fun q9 =>
    ih x3 x4 (wrapA .u64 ((wrapA .u64 (x5 * (6364136223846793005 : Int))) + (1442695040888963407 : Int))) (wrapA .i64 (x6 + (1 : Int))) q9.2)
      (some ((), h7))) n
theorem corbelhand_Bytes.l0_zero (k : Nat) (x3 : Int) (x4 : Sl) (x5 : Int) (x6 : Int) (h7 : H) : corbelhand_Bytes.l0 k 0 x3 x4 x5 x6 h7 = none := rfl
theorem corbelhand_Bytes.l0_succ (k n : Nat) (x3 : Int) (x4 : Sl) (x5 : Int) (x6 : Int) (h7 : H) : corbelhand_Bytes.l0 k (n + 1) x3 x4 x5 x6 h7 = (cond (decide (x6 < x3))
      ((asP (ixs 1 x4.a x4.n x6)).bind fun p8 =>
    (stv 1 h7 p8 [(Value.int .u8 (wrapA .u8 ((wrapA .u64 ((wrapA .u64 (x5 * (6364136223846793005 : Int))) + (1442695040888963407 : Int))).fdiv (2 ^ 56))))]).bind fun q9 =>
    corbelhand_Bytes.l0 k n x3 x4 (wrapA .u64 ((wrapA .u64 (x5 * (6364136223846793005 : Int))) + (1442695040888963407 : Int))) (wrapA .i64 (x6 + (1 : Int))) q9.2)
      (some ((), h7))) := rfl
noncomputable def corbelhand_Bytes.f (k : Nat) (a0 : Int) (a1 : Int) (h : H) : Option ((Sl) × H) :=
  (asS2 (mkz 5 1 1 [(Value.int .u8 (0 : Int))] a1 a1 h)).bind fun q1 =>
    (corbelhand_Pick.f k a0 (7 : Int) q1.2).bind fun q2 =>
    cond (q2.1 == (6 : Int))
      (some (q1.1, q2.2))
      ((corbelhand_Bytes.l0 k k a1 q1.1 (wrapA .u64 ((wrapA .u64 ((wrapA .u64 a0) * (2654435761 : Int))) + (12345 : Int))) (0 : Int) q2.2).bind fun w10 =>
    some (q1.1, w10.2))
noncomputable def corbelhand_Bytes.T (k : Nat) : Tbl := tblOf [⟨17, anyArgs, wr [(.int .i64), (.int .i64)] [(.int .i64)] (fun a h => corbelhand_Pick.f k (a.1) (a.2) h)⟩]
noncomputable def corbelhand_Bytes.an (k : Nat) (p : Nat) : Option Ann := cond (Nat.beq p 250) (some (.pass [5] (lrun [(1, (.int .i64)), (5, .sl), (6, (.int .u64)), (7, (.int .i64))] none [] 0 (fun a h => corbelhand_Bytes.l0 k k (a.1) (a.2.1) (a.2.2.1) (a.2.2.2) h))))
  (none)
noncomputable def corbelhand_Bytes.body : Code := (Try.f23.body).getD .skip
noncomputable def corbelhand_Bytes.c250 : Code := cat corbelhand_Bytes.body [1, 1, 1, 1, 0, 1, 0, 0]
set_option maxRecDepth 100000 in
theorem corbelhand_Bytes.TS {C : FuncId → Bool} {X : CallF} (hX : XOk C X) (k : Nat) : TblS Try.prog C X (corbelhand_Bytes.T k) := by
  refine tblOf_sound ?_
  intro e he
  rcases List.mem_cons.1 he with rfl | he
  · exact wr_told (corbelhand_Pick.told hX k)
  exact absurd he List.not_mem_nil
set_option maxRecDepth 100000 in
theorem corbelhand_Bytes.l0_pass {C : FuncId → Bool} {X : CallF} (hX : XOk C X) (k n : Nat) : PassS Try.prog C X 33 (.loop corbelhand_Bytes.c250) (lrun [(1, (.int .i64)), (5, .sl), (6, (.int .u64)), (7, (.int .i64))] none [] 0 (fun a h => corbelhand_Bytes.l0 k n (a.1) (a.2.1) (a.2.2.1) (a.2.2.2) h)) :=
  loop_pass (ins := [(1, (.int .i64)), (5, .sl), (6, (.int .u64)), (7, (.int .i64))]) (rets := none) (outs := []) (id := 0) (tbl := corbelhand_Bytes.T k) (an := corbelhand_Bytes.an k) (pb := 500) (corbelhand_Bytes.TS hX k) (fun n => (fun a h => corbelhand_Bytes.l0 k n (a.1) (a.2.1) (a.2.2.1) (a.2.2.2) h)) (fun a h => rfl) (fun n a h => by kernel_rfl)
    (by
      have e : need (corbelhand_Bytes.an k) corbelhand_Bytes.c250 500 = [] := by kernel_rfl
      rw [e]; intro q hq; cases hq) n
set_option maxRecDepth 100000 in
theorem corbelhand_Bytes.eq (k : Nat) (a : RT [(.int .i64), (.int .i64)]) (h : H) : (fun a h => corbelhand_Bytes.f k (a.1) (a.2) h) a h = kfun Try.prog (corbelhand_Bytes.T k) (corbelhand_Bytes.an k) (RT [.sl] × H) Try.f23 (encL [(.int .i64), (.int .i64)] a) h (fun vs h' => (decL [.sl] vs).bind fun x => some (x, h')) := by kernel_rfl
set_option maxRecDepth 100000 in
theorem corbelhand_Bytes.told {C : FuncId → Bool} {X : CallF} (hX : XOk C X) (k : Nat) : Den.Told Try.prog C X 23 [(.int .i64), (.int .i64)] [.sl] (fun a h => corbelhand_Bytes.f k (a.1) (a.2) h) :=
  told_of fun a h q e => fn_of (c := corbelhand_Bytes.body) (corbelhand_Bytes.TS hX k) Try.func23 (by kernel_rfl) (hX.no 23 _ h (by decide))
    (by
      have e : need (corbelhand_Bytes.an k) corbelhand_Bytes.body 1 = [(Code.loop corbelhand_Bytes.c250, lrun [(1, (.int .i64)), (5, .sl), (6, (.int .u64)), (7, (.int .i64))] none [] 0 (fun a h => corbelhand_Bytes.l0 k k (a.1) (a.2.1) (a.2.2.1) (a.2.2.2) h))] := by kernel_rfl
      rw [e]; intro q hq
      rcases List.mem_cons.1 hq with rfl | hq
      · exact corbelhand_Bytes.l0_pass hX k k
      cases hq)
    ((corbelhand_Bytes.eq k a h).symm.trans e)
end Go.Proofs.Ytbegaeohggkblaa.Fwd
