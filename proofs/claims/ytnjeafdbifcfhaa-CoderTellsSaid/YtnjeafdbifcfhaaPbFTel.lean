/- Forward runs of functions of the program, printed by a program of this session: each function on plain values and memory, and that the code comes to it. No condition. -/
import Derived.Test.YtnjeafdbifcfhaaDenZ
import Derived.KernelRfl
import Derived.Test.YtnjeafdbifcfhaaPbFCod
import Derived.Test.YtnjeafdbifcfhaaPbFF
import Derived.Test.YtnjeafdbifcfhaaPbFKn31
import Derived.Test.YtnjeafdbifcfhaaPbFKn43
import Derived.Test.YtnjeafdbifcfhaaPbFMat
namespace Go.Proofs.Ytnjeafdbifcfhaa.Fwd
open Go Den
set_option linter.unusedVariables false
/-! ### corbel/corbelref3.RightMatrix -/
noncomputable def corbelref3_RightMatrix.l0 (k : Nat) (n : Nat) : Sl → Int → H → Option (((Bool) ⊕ (Unit)) × H) :=
  Nat.rec (motive := fun _ => Sl → Int → H → Option (((Bool) ⊕ (Unit)) × H)) (fun _ _ _ => none) (fun _ ih x8 x9 h10 => cond (decide (x9 < (Int.ofNat x8.n)))
      ((asP (ixs 1 x8.a x8.n x9)).bind fun p11 =>
    (asS (ldc h10 p11)).bind fun s12 =>
    (asP (ixs 1 x8.a x8.n (0 : Int))).bind fun p13 =>
    (asS (ldc h10 p13)).bind fun s14 =>
    cond ((Int.ofNat s12.n) != (Int.ofNat s14.n))
      (some (Sum.inl false, h10))
      (ih x8 (wrapA .i64 (x9 + (1 : Int))) h10))
      (some (Sum.inr (), h10))) n
theorem corbelref3_RightMatrix.l0_zero (k : Nat) (x8 : Sl) (x9 : Int) (h10 : H) : corbelref3_RightMatrix.l0 k 0 x8 x9 h10 = none := rfl
theorem corbelref3_RightMatrix.l0_succ (k n : Nat) (x8 : Sl) (x9 : Int) (h10 : H) : corbelref3_RightMatrix.l0 k (n + 1) x8 x9 h10 = (cond (decide (x9 < (Int.ofNat x8.n)))
      ((asP (ixs 1 x8.a x8.n x9)).bind fun p11 =>
    (asS (ldc h10 p11)).bind fun s12 =>
    (asP (ixs 1 x8.a x8.n (0 : Int))).bind fun p13 =>
    (asS (ldc h10 p13)).bind fun s14 =>
    cond ((Int.ofNat s12.n) != (Int.ofNat s14.n))
      (some (Sum.inl false, h10))
      (corbelref3_RightMatrix.l0 k n x8 (wrapA .i64 (x9 + (1 : Int))) h10))
      (some (Sum.inr (), h10))) := rfl
noncomputable def corbelref3_RightMatrix.f (k : Nat) (a0 : Sl) (h : H) : Option ((Bool) × H) :=
  (cond (decide ((Int.ofNat a0.n) < (1 : Int))) (some (true, h))
      (some (decide ((Int.ofNat a0.n) > (64 : Int)), h))).bind fun g1 =>
    (cond g1.1 (some (true, g1.2))
      ((asP (ixs 1 a0.a a0.n (0 : Int))).bind fun p2 =>
    (asS (ldc g1.2 p2)).bind fun s3 =>
    some (decide ((Int.ofNat s3.n) < (1 : Int)), g1.2))).bind fun g4 =>
    (cond g4.1 (some (true, g4.2))
      ((asP (ixs 1 a0.a a0.n (0 : Int))).bind fun p5 =>
    (asS (ldc g4.2 p5)).bind fun s6 =>
    some (decide ((Int.ofNat s6.n) > (64 : Int)), g4.2))).bind fun g7 =>
    cond g7.1
      (some (false, g7.2))
      ((corbelref3_RightMatrix.l0 k k a0 (0 : Int) g7.2).bind fun w15 =>
    match w15.1 with
    | .inl r16 => some (r16, w15.2)
    | .inr o17 => some (true, w15.2))
noncomputable def corbelref3_RightMatrix.T (k : Nat) : Tbl := tblOf []
noncomputable def corbelref3_RightMatrix.an (k : Nat) (p : Nat) : Option Ann := cond (Nat.beq p 58) (some (.pass [] (lrun [(0, .sl), (3, (.int .i64))] (some [(2, .bool)]) [] 0 (fun a h => corbelref3_RightMatrix.l0 k k (a.1) (a.2) h))))
  (none)
noncomputable def corbelref3_RightMatrix.body : Code := (Try.f39.body).getD .skip
noncomputable def corbelref3_RightMatrix.c58 : Code := cat corbelref3_RightMatrix.body [1, 1, 0, 1, 0, 0]
set_option maxRecDepth 100000 in
theorem corbelref3_RightMatrix.TS {C : FuncId → Bool} {X : CallF} (hX : XOk C X) (k : Nat) : TblS Try.prog C X (corbelref3_RightMatrix.T k) := by
  refine tblOf_sound ?_
  intro e he
  exact absurd he List.not_mem_nil
set_option maxRecDepth 100000 in
theorem corbelref3_RightMatrix.l0_pass {C : FuncId → Bool} {X : CallF} (hX : XOk C X) (k n : Nat) : PassS Try.prog C X 42 (.loop corbelref3_RightMatrix.c58) (lrun [(0, .sl), (3, (.int .i64))] (some [(2, .bool)]) [] 0 (fun a h => corbelref3_RightMatrix.l0 k n (a.1) (a.2) h)) :=
  loop_pass (ins := [(0, .sl), (3, (.int .i64))]) (rets := (some [(2, .bool)])) (outs := []) (id := 0) (tbl := corbelref3_RightMatrix.T k) (an := corbelref3_RightMatrix.an k) (pb := 116) (corbelref3_RightMatrix.TS hX k) (fun n => (fun a h => corbelref3_RightMatrix.l0 k n (a.1) (a.2) h)) (fun a h => rfl) (fun n a h => by kernel_rfl)
    (by
      have e : need (corbelref3_RightMatrix.an k) corbelref3_RightMatrix.c58 116 = [] := by kernel_rfl
      rw [e]; intro q hq; cases hq) n
set_option maxRecDepth 100000 in
theorem corbelref3_RightMatrix.eq (k : Nat) (a : RT [.sl]) (h : H) : (fun a h => corbelref3_RightMatrix.f k a h) a h = kfun Try.prog (corbelref3_RightMatrix.T k) (corbelref3_RightMatrix.an k) (RT [.bool] × H) Try.f39 (encL [.sl] a) h (fun vs h' => (decL [.bool] vs).bind fun x => some (x, h')) := by kernel_rfl
set_option maxRecDepth 100000 in
theorem corbelref3_RightMatrix.told {C : FuncId → Bool} {X : CallF} (hX : XOk C X) (k : Nat) : Den.Told Try.prog C X 39 [.sl] [.bool] (fun a h => corbelref3_RightMatrix.f k a h) :=
  told_of fun a h q e => fn_of (c := corbelref3_RightMatrix.body) (corbelref3_RightMatrix.TS hX k) Try.func39 (by kernel_rfl) (hX.no 39 _ h (by decide))
    (by
      have e : need (corbelref3_RightMatrix.an k) corbelref3_RightMatrix.body 1 = [(Code.loop corbelref3_RightMatrix.c58, lrun [(0, .sl), (3, (.int .i64))] (some [(2, .bool)]) [] 0 (fun a h => corbelref3_RightMatrix.l0 k k (a.1) (a.2) h))] := by kernel_rfl
      rw [e]; intro q hq
      rcases List.mem_cons.1 hq with rfl | hq
      · exact corbelref3_RightMatrix.l0_pass hX k k
      cases hq)
    ((corbelref3_RightMatrix.eq k a h).symm.trans e)
/-! ### corbel/corbelref3.without -/
noncomputable def corbelref3_without.l0 (k : Nat) (n : Nat) : Sl → Int → Int → Sl → Int → H → Option ((Sl) × H) :=
  Nat.rec (motive := fun _ => Sl → Int → Int → Sl → Int → H → Option ((Sl) × H)) (fun _ _ _ _ _ _ => none) (fun _ ih x1 x2 x3 x4 x5 h6 => cond (decide (x5 < (Int.ofNat x1.n)))
      ((cond (x5 != x2)
      ((asP (ixs 1 x1.a x1.n x5)).bind fun p7 =>
    (asS (ldc (newR h6 5 1 []) p7)).bind fun s8 =>
    (asS (subs 1 (Value.slice s8.a s8.n s8.c) none (some x3))).bind fun s9 =>
    (asS2 (apv 5 1 1 (Value.slice (some ⟨h6.next, 0, none⟩) 0 0) (Value.slice s9.a s9.n s9.c) (newR h6 5 1 []))).bind fun q10 =>
    (asP (ixs 1 x1.a x1.n x5)).bind fun p11 =>
    (asS (ldc q10.2 p11)).bind fun s12 =>
    (asS (subs 1 (Value.slice s12.a s12.n s12.c) (some (wrapA .i64 (x3 + (1 : Int)))) none)).bind fun s13 =>
    (asS2 (apv 5 1 1 (Value.slice q10.1.a q10.1.n q10.1.c) (Value.slice s13.a s13.n s13.c) q10.2)).bind fun q14 =>
    (asS2 (apv 40 1 24 (Value.slice x4.a x4.n x4.c) (Value.slice (some ⟨q14.2.next, 0, none⟩) 1 1) (newR q14.2 40 1 [(Value.slice q14.1.a q14.1.n q14.1.c)]))).bind fun q15 =>
    cond (same1 (newR h6 5 1 []) q10.2 (some (Value.pointer p11)) && (true)) (some (q15.1, q15.2)) none)
      (some (x4, h6)) : Option ((Sl) × H)).bind fun j16 =>
    ih x1 x2 x3 j16.1 (wrapA .i64 (x5 + (1 : Int))) j16.2)
      (some (x4, h6))) n
theorem corbelref3_without.l0_zero (k : Nat) (x1 : Sl) (x2 : Int) (x3 : Int) (x4 : Sl) (x5 : Int) (h6 : H) : corbelref3_without.l0 k 0 x1 x2 x3 x4 x5 h6 = none := rfl
theorem corbelref3_without.l0_succ (k n : Nat) (x1 : Sl) (x2 : Int) (x3 : Int) (x4 : Sl) (x5 : Int) (h6 : H) : corbelref3_without.l0 k (n + 1) x1 x2 x3 x4 x5 h6 = (cond (decide (x5 < (Int.ofNat x1.n)))
      ((cond (x5 != x2)
      ((asP (ixs 1 x1.a x1.n x5)).bind fun p7 =>
    (asS (ldc (newR h6 5 1 []) p7)).bind fun s8 =>
    (asS (subs 1 (Value.slice s8.a s8.n s8.c) none (some x3))).bind fun s9 =>
    (asS2 (apv 5 1 1 (Value.slice (some ⟨h6.next, 0, none⟩) 0 0) (Value.slice s9.a s9.n s9.c) (newR h6 5 1 []))).bind fun q10 =>
    (asP (ixs 1 x1.a x1.n x5)).bind fun p11 =>
    (asS (ldc q10.2 p11)).bind fun s12 =>
    (asS (subs 1 (Value.slice s12.a s12.n s12.c) (some (wrapA .i64 (x3 + (1 : Int)))) none)).bind fun s13 =>
    (asS2 (apv 5 1 1 (Value.slice q10.1.a q10.1.n q10.1.c) (Value.slice s13.a s13.n s13.c) q10.2)).bind fun q14 =>
    (asS2 (apv 40 1 24 (Value.slice x4.a x4.n x4.c) (Value.slice (some ⟨q14.2.next, 0, none⟩) 1 1) (newR q14.2 40 1 [(Value.slice q14.1.a q14.1.n q14.1.c)]))).bind fun q15 =>
    cond (same1 (newR h6 5 1 []) q10.2 (some (Value.pointer p11)) && (true)) (some (q15.1, q15.2)) none)
      (some (x4, h6)) : Option ((Sl) × H)).bind fun j16 =>
    corbelref3_without.l0 k n x1 x2 x3 j16.1 (wrapA .i64 (x5 + (1 : Int))) j16.2)
      (some (x4, h6))) := rfl
noncomputable def corbelref3_without.f (k : Nat) (a0 : Sl) (a1 : Int) (a2 : Int) (h : H) : Option ((Sl) × H) :=
  (corbelref3_without.l0 k k a0 a1 a2 (⟨none, 0, 0⟩ : Sl) (0 : Int) h).bind fun w17 =>
    some (w17.1, w17.2)
noncomputable def corbelref3_without.T (k : Nat) : Tbl := tblOf []
noncomputable def corbelref3_without.an (k : Nat) (p : Nat) : Option Ann := cond (Nat.beq p 58) (some (.pass [] (lrun [(0, .sl), (1, (.int .i64)), (2, (.int .i64)), (7, .sl), (8, (.int .i64))] none [(7, .sl)] 0 (fun a h => corbelref3_without.l0 k k (a.1) (a.2.1) (a.2.2.1) (a.2.2.2.1) (a.2.2.2.2) h))))
  (cond (Nat.beq p 1865) (some (.join [0, 1, 2, 8] none [(7, .sl)]))
  (none))
noncomputable def corbelref3_without.body : Code := (Try.f63.body).getD .skip
noncomputable def corbelref3_without.c58 : Code := cat corbelref3_without.body [1, 1, 0, 1, 0, 0]
set_option maxRecDepth 100000 in
theorem corbelref3_without.TS {C : FuncId → Bool} {X : CallF} (hX : XOk C X) (k : Nat) : TblS Try.prog C X (corbelref3_without.T k) := by
  refine tblOf_sound ?_
  intro e he
  exact absurd he List.not_mem_nil
set_option maxRecDepth 100000 in
theorem corbelref3_without.l0_pass {C : FuncId → Bool} {X : CallF} (hX : XOk C X) (k n : Nat) : PassS Try.prog C X 38 (.loop corbelref3_without.c58) (lrun [(0, .sl), (1, (.int .i64)), (2, (.int .i64)), (7, .sl), (8, (.int .i64))] none [(7, .sl)] 0 (fun a h => corbelref3_without.l0 k n (a.1) (a.2.1) (a.2.2.1) (a.2.2.2.1) (a.2.2.2.2) h)) :=
  loop_pass (ins := [(0, .sl), (1, (.int .i64)), (2, (.int .i64)), (7, .sl), (8, (.int .i64))]) (rets := none) (outs := [(7, .sl)]) (id := 0) (tbl := corbelref3_without.T k) (an := corbelref3_without.an k) (pb := 116) (corbelref3_without.TS hX k) (fun n => (fun a h => corbelref3_without.l0 k n (a.1) (a.2.1) (a.2.2.1) (a.2.2.2.1) (a.2.2.2.2) h)) (fun a h => rfl) (fun n a h => by kernel_rfl)
    (by
      have e : need (corbelref3_without.an k) corbelref3_without.c58 116 = [] := by kernel_rfl
      rw [e]; intro q hq; cases hq) n
set_option maxRecDepth 100000 in
theorem corbelref3_without.eq (k : Nat) (a : RT [.sl, (.int .i64), (.int .i64)]) (h : H) : (fun a h => corbelref3_without.f k (a.1) (a.2.1) (a.2.2) h) a h = kfun Try.prog (corbelref3_without.T k) (corbelref3_without.an k) (RT [.sl] × H) Try.f63 (encL [.sl, (.int .i64), (.int .i64)] a) h (fun vs h' => (decL [.sl] vs).bind fun x => some (x, h')) := by kernel_rfl
set_option maxRecDepth 100000 in
theorem corbelref3_without.told {C : FuncId → Bool} {X : CallF} (hX : XOk C X) (k : Nat) : Den.Told Try.prog C X 63 [.sl, (.int .i64), (.int .i64)] [.sl] (fun a h => corbelref3_without.f k (a.1) (a.2.1) (a.2.2) h) :=
  told_of fun a h q e => fn_of (c := corbelref3_without.body) (corbelref3_without.TS hX k) Try.func63 (by kernel_rfl) (hX.no 63 _ h (by decide))
    (by
      have e : need (corbelref3_without.an k) corbelref3_without.body 1 = [(Code.loop corbelref3_without.c58, lrun [(0, .sl), (1, (.int .i64)), (2, (.int .i64)), (7, .sl), (8, (.int .i64))] none [(7, .sl)] 0 (fun a h => corbelref3_without.l0 k k (a.1) (a.2.1) (a.2.2.1) (a.2.2.2.1) (a.2.2.2.2) h))] := by kernel_rfl
      rw [e]; intro q hq
      rcases List.mem_cons.1 hq with rfl | hq
      · exact corbelref3_without.l0_pass hX k k
      cases hq)
    ((corbelref3_without.eq k a h).symm.trans e)
/-! ### corbel/corbelref3.Mul -/
noncomputable def corbelref3_Mul.l0 (k : Nat) (n : Nat) : Int → Int → Int → Int → H → Option ((Int) × H) :=
  Nat.rec (motive := fun _ => Int → Int → Int → Int → H → Option ((Int) × H)) (fun _ _ _ _ _ => none) (fun _ ih x1 x2 x3 x4 h5 => cond (decide (x4 < (8 : Int)))
      ((asI .u8 (binA Try.prog .shr 5 (Value.int .u8 x1) (Value.int .u64 (wrapA .u64 x4)))).bind fun n6 =>
    (asI .u8 (intA .and .u8 n6 (1 : Int))).bind fun n7 =>
    (cond (n7 == (1 : Int))
      ((asI .i64 (intA .xor .i64 x3 x2)).bind fun n8 =>
    some (n8, h5))
      (some (x3, h5)) : Option ((Int) × H)).bind fun j9 =>
    (cond (decide ((wrapA .i64 (x2 * 2 ^ 1)) > (255 : Int)))
      ((asI .i64 (intA .xor .i64 (wrapA .i64 (x2 * 2 ^ 1)) (285 : Int))).bind fun n10 =>
    some (n10, j9.2))
      (some (wrapA .i64 (x2 * 2 ^ 1), j9.2)) : Option ((Int) × H)).bind fun j11 =>
    ih x1 j11.1 j9.1 (wrapA .i64 (x4 + (1 : Int))) j11.2)
      (some (x3, h5))) n
theorem corbelref3_Mul.l0_zero (k : Nat) (x1 : Int) (x2 : Int) (x3 : Int) (x4 : Int) (h5 : H) : corbelref3_Mul.l0 k 0 x1 x2 x3 x4 h5 = none := rfl
theorem corbelref3_Mul.l0_succ (k n : Nat) (x1 : Int) (x2 : Int) (x3 : Int) (x4 : Int) (h5 : H) : corbelref3_Mul.l0 k (n + 1) x1 x2 x3 x4 h5 = (cond (decide (x4 < (8 : Int)))
      ((asI .u8 (binA Try.prog .shr 5 (Value.int .u8 x1) (Value.int .u64 (wrapA .u64 x4)))).bind fun n6 =>
    (asI .u8 (intA .and .u8 n6 (1 : Int))).bind fun n7 =>
    (cond (n7 == (1 : Int))
      ((asI .i64 (intA .xor .i64 x3 x2)).bind fun n8 =>
    some (n8, h5))
      (some (x3, h5)) : Option ((Int) × H)).bind fun j9 =>
    (cond (decide ((wrapA .i64 (x2 * 2 ^ 1)) > (255 : Int)))
      ((asI .i64 (intA .xor .i64 (wrapA .i64 (x2 * 2 ^ 1)) (285 : Int))).bind fun n10 =>
    some (n10, j9.2))
      (some (wrapA .i64 (x2 * 2 ^ 1), j9.2)) : Option ((Int) × H)).bind fun j11 =>
    corbelref3_Mul.l0 k n x1 j11.1 j9.1 (wrapA .i64 (x4 + (1 : Int))) j11.2)
      (some (x3, h5))) := rfl
noncomputable def corbelref3_Mul.f (k : Nat) (a0 : Int) (a1 : Int) (h : H) : Option ((Int) × H) :=
  (corbelref3_Mul.l0 k k a1 (wrapA .i64 a0) (0 : Int) (0 : Int) h).bind fun w12 =>
    some (wrapA .u8 w12.1, w12.2)
noncomputable def corbelref3_Mul.T (k : Nat) : Tbl := tblOf []
noncomputable def corbelref3_Mul.an (k : Nat) (p : Nat) : Option Ann := cond (Nat.beq p 122) (some (.pass [] (lrun [(1, (.int .u8)), (5, (.int .i64)), (6, (.int .i64)), (7, (.int .i64))] none [(6, (.int .i64))] 0 (fun a h => corbelref3_Mul.l0 k k (a.1) (a.2.1) (a.2.2.1) (a.2.2.2) h))))
  (cond (Nat.beq p 15655) (some (.join [1, 6, 7] none [(5, (.int .i64))]))
  (cond (Nat.beq p 7825) (some (.join [1, 5, 7] none [(6, (.int .i64))]))
  (none)))
noncomputable def corbelref3_Mul.body : Code := (Try.f26.body).getD .skip
noncomputable def corbelref3_Mul.c122 : Code := cat corbelref3_Mul.body [1, 1, 1, 0, 1, 0, 0]
set_option maxRecDepth 100000 in
theorem corbelref3_Mul.TS {C : FuncId → Bool} {X : CallF} (hX : XOk C X) (k : Nat) : TblS Try.prog C X (corbelref3_Mul.T k) := by
  refine tblOf_sound ?_
  intro e he
  exact absurd he List.not_mem_nil
set_option maxRecDepth 100000 in
theorem corbelref3_Mul.l0_pass {C : FuncId → Bool} {X : CallF} (hX : XOk C X) (k n : Nat) : PassS Try.prog C X 31 (.loop corbelref3_Mul.c122) (lrun [(1, (.int .u8)), (5, (.int .i64)), (6, (.int .i64)), (7, (.int .i64))] none [(6, (.int .i64))] 0 (fun a h => corbelref3_Mul.l0 k n (a.1) (a.2.1) (a.2.2.1) (a.2.2.2) h)) :=
  loop_pass (ins := [(1, (.int .u8)), (5, (.int .i64)), (6, (.int .i64)), (7, (.int .i64))]) (rets := none) (outs := [(6, (.int .i64))]) (id := 0) (tbl := corbelref3_Mul.T k) (an := corbelref3_Mul.an k) (pb := 244) (corbelref3_Mul.TS hX k) (fun n => (fun a h => corbelref3_Mul.l0 k n (a.1) (a.2.1) (a.2.2.1) (a.2.2.2) h)) (fun a h => rfl) (fun n a h => by kernel_rfl)
    (by
      have e : need (corbelref3_Mul.an k) corbelref3_Mul.c122 244 = [] := by kernel_rfl
      rw [e]; intro q hq; cases hq) n
set_option maxRecDepth 100000 in
theorem corbelref3_Mul.eq (k : Nat) (a : RT [(.int .u8), (.int .u8)]) (h : H) : (fun a h => corbelref3_Mul.f k (a.1) (a.2) h) a h = kfun Try.prog (corbelref3_Mul.T k) (corbelref3_Mul.an k) (RT [(.int .u8)] × H) Try.f26 (encL [(.int .u8), (.int .u8)] a) h (fun vs h' => (decL [(.int .u8)] vs).bind fun x => some (x, h')) := by kernel_rfl
set_option maxRecDepth 100000 in
theorem corbelref3_Mul.told {C : FuncId → Bool} {X : CallF} (hX : XOk C X) (k : Nat) : Den.Told Try.prog C X 26 [(.int .u8), (.int .u8)] [(.int .u8)] (fun a h => corbelref3_Mul.f k (a.1) (a.2) h) :=
  told_of fun a h q e => fn_of (c := corbelref3_Mul.body) (corbelref3_Mul.TS hX k) Try.func26 (by kernel_rfl) (hX.no 26 _ h (by decide))
    (by
      have e : need (corbelref3_Mul.an k) corbelref3_Mul.body 1 = [(Code.loop corbelref3_Mul.c122, lrun [(1, (.int .u8)), (5, (.int .i64)), (6, (.int .i64)), (7, (.int .i64))] none [(6, (.int .i64))] 0 (fun a h => corbelref3_Mul.l0 k k (a.1) (a.2.1) (a.2.2.1) (a.2.2.2) h))] := by kernel_rfl
      rw [e]; intro q hq
      rcases List.mem_cons.1 hq with rfl | hq
      · exact corbelref3_Mul.l0_pass hX k k
      cases hq)
    ((corbelref3_Mul.eq k a h).symm.trans e)
/-! ### corbel/corbelref3.Det -/
noncomputable def corbelref3_Det.l0 (k : Nat) (g : Sl → H → Option ((Int) × H)) (n : Nat) : Sl → Int → Int → H → Option ((Int) × H) :=
  Nat.rec (motive := fun _ => Sl → Int → Int → H → Option ((Int) × H)) (fun _ _ _ _ => none) (fun _ ih x1 x2 x3 h4 => cond (decide (x3 < (Int.ofNat x1.n)))
      ((asP (ixs 1 x1.a x1.n (0 : Int))).bind fun p5 =>
    (asS (ldc h4 p5)).bind fun s6 =>
    (asP (ixs 1 s6.a s6.n x3)).bind fun p7 =>
    (asI .u8 (ldc h4 p7)).bind fun n8 =>
    (cond (n8 != (0 : Int))
      ((asP (ixs 1 x1.a x1.n (0 : Int))).bind fun p9 =>
    (asS (ldc h4 p9)).bind fun s10 =>
    (asP (ixs 1 s10.a s10.n x3)).bind fun p11 =>
    (asI .u8 (ldc h4 p11)).bind fun n12 =>
    (corbelref3_without.f k x1 (0 : Int) x3 h4).bind fun q13 =>
    (g q13.1 q13.2).bind fun q14 =>
    (corbelref3_Mul.f k n12 q14.1 q14.2).bind fun q15 =>
    (asI .u8 (intA .xor .u8 x2 q15.1)).bind fun n16 =>
    cond (same1 h4 q13.2 (some (Value.pointer p9)) && (same1 q13.2 q14.2 (some (Value.pointer p9)) && (same1 h4 q13.2 (some (Value.pointer p11)) && (same1 q13.2 q14.2 (some (Value.pointer p11)) && (true))))) (some (n16, q15.2)) none)
      (some (x2, h4)) : Option ((Int) × H)).bind fun j17 =>
    ih x1 j17.1 (wrapA .i64 (x3 + (1 : Int))) j17.2)
      (some (x2, h4))) n
theorem corbelref3_Det.l0_zero (k : Nat) (g : Sl → H → Option ((Int) × H)) (x1 : Sl) (x2 : Int) (x3 : Int) (h4 : H) : corbelref3_Det.l0 k g 0 x1 x2 x3 h4 = none := rfl
theorem corbelref3_Det.l0_succ (k n : Nat) (g : Sl → H → Option ((Int) × H)) (x1 : Sl) (x2 : Int) (x3 : Int) (h4 : H) : corbelref3_Det.l0 k g (n + 1) x1 x2 x3 h4 = (cond (decide (x3 < (Int.ofNat x1.n)))
      ((asP (ixs 1 x1.a x1.n (0 : Int))).bind fun p5 =>
    (asS (ldc h4 p5)).bind fun s6 =>
    (asP (ixs 1 s6.a s6.n x3)).bind fun p7 =>
    (asI .u8 (ldc h4 p7)).bind fun n8 =>
    (cond (n8 != (0 : Int))
      ((asP (ixs 1 x1.a x1.n (0 : Int))).bind fun p9 =>
    (asS (ldc h4 p9)).bind fun s10 =>
    (asP (ixs 1 s10.a s10.n x3)).bind fun p11 =>
    (asI .u8 (ldc h4 p11)).bind fun n12 =>
    (corbelref3_without.f k x1 (0 : Int) x3 h4).bind fun q13 =>
    (g q13.1 q13.2).bind fun q14 =>
    (corbelref3_Mul.f k n12 q14.1 q14.2).bind fun q15 =>
    (asI .u8 (intA .xor .u8 x2 q15.1)).bind fun n16 =>
    cond (same1 h4 q13.2 (some (Value.pointer p9)) && (same1 q13.2 q14.2 (some (Value.pointer p9)) && (same1 h4 q13.2 (some (Value.pointer p11)) && (same1 q13.2 q14.2 (some (Value.pointer p11)) && (true))))) (some (n16, q15.2)) none)
      (some (x2, h4)) : Option ((Int) × H)).bind fun j17 =>
    corbelref3_Det.l0 k g n x1 j17.1 (wrapA .i64 (x3 + (1 : Int))) j17.2)
      (some (x2, h4))) := rfl
noncomputable def corbelref3_Det.f1 (k : Nat) (g : Sl → H → Option ((Int) × H)) (a0 : Sl) (h : H) : Option ((Int) × H) :=
  cond ((Int.ofNat a0.n) == (0 : Int))
      (some ((1 : Int), h))
      ((corbelref3_Det.l0 k g k a0 (0 : Int) (0 : Int) h).bind fun w18 =>
    some (w18.1, w18.2))
noncomputable def corbelref3_Det.T (k : Nat) (g : Sl → H → Option ((Int) × H)) : Tbl := tblOf [⟨63, anyArgs, wr [.sl, (.int .i64), (.int .i64)] [.sl] (fun a h => corbelref3_without.f k (a.1) (a.2.1) (a.2.2) h)⟩,
  ⟨62, anyArgs, wr [.sl] [(.int .u8)] (fun a h => g a h)⟩,
  ⟨26, anyArgs, wr [(.int .u8), (.int .u8)] [(.int .u8)] (fun a h => corbelref3_Mul.f k (a.1) (a.2) h)⟩]
noncomputable def corbelref3_Det.an (k : Nat) (g : Sl → H → Option ((Int) × H)) (p : Nat) : Option Ann := cond (Nat.beq p 122) (some (.pass [] (lrun [(0, .sl), (3, (.int .u8)), (4, (.int .i64))] none [(3, (.int .u8))] 0 (fun a h => corbelref3_Det.l0 k g k (a.1) (a.2.1) (a.2.2) h))))
  (cond (Nat.beq p 3913) (some (.join [0, 4] none [(3, (.int .u8))]))
  (none))
noncomputable def corbelref3_Det.body : Code := (Try.f62.body).getD .skip
noncomputable def corbelref3_Det.c122 : Code := cat corbelref3_Det.body [1, 1, 1, 0, 1, 0, 0]
set_option maxRecDepth 100000 in
theorem corbelref3_Det.TS {C : FuncId → Bool} {X : CallF} (hX : XOk C X) (k : Nat) (g : Sl → H → Option ((Int) × H)) (hg : Den.Told Try.prog C X 62 [.sl] [(.int .u8)] (fun a h => g a h)) : TblS Try.prog C X (corbelref3_Det.T k g) := by
  refine tblOf_sound ?_
  intro e he
  rcases List.mem_cons.1 he with rfl | he
  · exact wr_told (corbelref3_without.told hX k)
  rcases List.mem_cons.1 he with rfl | he
  · exact wr_told hg
  rcases List.mem_cons.1 he with rfl | he
  · exact wr_told (corbelref3_Mul.told hX k)
  exact absurd he List.not_mem_nil
set_option maxRecDepth 100000 in
theorem corbelref3_Det.l0_pass {C : FuncId → Bool} {X : CallF} (hX : XOk C X) (k n : Nat) (g : Sl → H → Option ((Int) × H)) (hg : Den.Told Try.prog C X 62 [.sl] [(.int .u8)] (fun a h => g a h)) : PassS Try.prog C X 35 (.loop corbelref3_Det.c122) (lrun [(0, .sl), (3, (.int .u8)), (4, (.int .i64))] none [(3, (.int .u8))] 0 (fun a h => corbelref3_Det.l0 k g n (a.1) (a.2.1) (a.2.2) h)) :=
  loop_pass (ins := [(0, .sl), (3, (.int .u8)), (4, (.int .i64))]) (rets := none) (outs := [(3, (.int .u8))]) (id := 0) (tbl := corbelref3_Det.T k g) (an := corbelref3_Det.an k g) (pb := 244) (corbelref3_Det.TS hX k g hg) (fun n => (fun a h => corbelref3_Det.l0 k g n (a.1) (a.2.1) (a.2.2) h)) (fun a h => rfl) (fun n a h => by kernel_rfl)
    (by
      have e : need (corbelref3_Det.an k g) corbelref3_Det.c122 244 = [] := by kernel_rfl
      rw [e]; intro q hq; cases hq) n
set_option maxRecDepth 100000 in
theorem corbelref3_Det.eq (k : Nat) (g : Sl → H → Option ((Int) × H)) (a : RT [.sl]) (h : H) : (fun a h => corbelref3_Det.f1 k g a h) a h = kfun Try.prog (corbelref3_Det.T k g) (corbelref3_Det.an k g) (RT [(.int .u8)] × H) Try.f62 (encL [.sl] a) h (fun vs h' => (decL [(.int .u8)] vs).bind fun x => some (x, h')) := by kernel_rfl
set_option maxRecDepth 100000 in
theorem corbelref3_Det.told1 {C : FuncId → Bool} {X : CallF} (hX : XOk C X) (k : Nat) (g : Sl → H → Option ((Int) × H)) (hg : Den.Told Try.prog C X 62 [.sl] [(.int .u8)] (fun a h => g a h)) : Den.Told Try.prog C X 62 [.sl] [(.int .u8)] (fun a h => corbelref3_Det.f1 k g a h) :=
  told_of fun a h q e => fn_of (c := corbelref3_Det.body) (corbelref3_Det.TS hX k g hg) Try.func62 (by kernel_rfl) (hX.no 62 _ h (by decide))
    (by
      have e : need (corbelref3_Det.an k g) corbelref3_Det.body 1 = [(Code.loop corbelref3_Det.c122, lrun [(0, .sl), (3, (.int .u8)), (4, (.int .i64))] none [(3, (.int .u8))] 0 (fun a h => corbelref3_Det.l0 k g k (a.1) (a.2.1) (a.2.2) h))] := by kernel_rfl
      rw [e]; intro q hq
      rcases List.mem_cons.1 hq with rfl | hq
      · exact corbelref3_Det.l0_pass hX k k g hg
      cases hq)
    ((corbelref3_Det.eq k g a h).symm.trans e)
noncomputable def corbelref3_Det.fr (k d : Nat) : Sl → H → Option ((Int) × H) := Nat.rec (motive := fun _ => Sl → H → Option ((Int) × H)) (fun _ _ => none) (fun _ ih => corbelref3_Det.f1 k ih) d
theorem corbelref3_Det.fr_succ (k d : Nat) : corbelref3_Det.fr k (d + 1) = corbelref3_Det.f1 k (corbelref3_Det.fr k d) := rfl
noncomputable def corbelref3_Det.f (k : Nat) (a0 : Sl) (h : H) : Option ((Int) × H) := corbelref3_Det.fr k k a0 h
theorem corbelref3_Det.told {C : FuncId → Bool} {X : CallF} (hX : XOk C X) (k : Nat) : Den.Told Try.prog C X 62 [.sl] [(.int .u8)] (fun a h => corbelref3_Det.f k a h) := by
  have key : ∀ d, Den.Told Try.prog C X 62 [.sl] [(.int .u8)] (fun a h => corbelref3_Det.fr k d a h) := fun d => by
    induction d with
    | zero => intro a h q h' e; cases e
    | succ d ih => exact corbelref3_Det.told1 hX k (corbelref3_Det.fr k d) ih
  exact key k
/-! ### corbel/corbelref3.Inv -/
noncomputable def corbelref3_Inv.l0 (k : Nat) (n : Nat) : Int → Int → H → Option (((Int × Bool) ⊕ (Unit)) × H) :=
  Nat.rec (motive := fun _ => Int → Int → H → Option (((Int × Bool) ⊕ (Unit)) × H)) (fun _ _ _ => none) (fun _ ih x1 x2 h3 => cond (decide (x2 < (256 : Int)))
      ((corbelref3_Mul.f k x1 (wrapA .u8 x2) h3).bind fun q4 =>
    cond (q4.1 == (1 : Int))
      (some (Sum.inl (wrapA .u8 x2, true), q4.2))
      (ih x1 (wrapA .i64 (x2 + (1 : Int))) q4.2))
      (some (Sum.inr (), h3))) n
theorem corbelref3_Inv.l0_zero (k : Nat) (x1 : Int) (x2 : Int) (h3 : H) : corbelref3_Inv.l0 k 0 x1 x2 h3 = none := rfl
theorem corbelref3_Inv.l0_succ (k n : Nat) (x1 : Int) (x2 : Int) (h3 : H) : corbelref3_Inv.l0 k (n + 1) x1 x2 h3 = (cond (decide (x2 < (256 : Int)))
      ((corbelref3_Mul.f k x1 (wrapA .u8 x2) h3).bind fun q4 =>
    cond (q4.1 == (1 : Int))
      (some (Sum.inl (wrapA .u8 x2, true), q4.2))
      (corbelref3_Inv.l0 k n x1 (wrapA .i64 (x2 + (1 : Int))) q4.2))
      (some (Sum.inr (), h3))) := rfl
noncomputable def corbelref3_Inv.f (k : Nat) (a0 : Int) (h : H) : Option ((Int × Bool) × H) :=
  (corbelref3_Inv.l0 k k a0 (1 : Int) h).bind fun w5 =>
    match w5.1 with
    | .inl r6 => some ((r6.1, r6.2), w5.2)
    | .inr o7 => some (((0 : Int), false), w5.2)
noncomputable def corbelref3_Inv.T (k : Nat) : Tbl := tblOf [⟨26, anyArgs, wr [(.int .u8), (.int .u8)] [(.int .u8)] (fun a h => corbelref3_Mul.f k (a.1) (a.2) h)⟩]
noncomputable def corbelref3_Inv.an (k : Nat) (p : Nat) : Option Ann := cond (Nat.beq p 26) (some (.pass [] (lrun [(0, (.int .u8)), (4, (.int .i64))] (some [(2, (.int .u8)), (3, .bool)]) [] 0 (fun a h => corbelref3_Inv.l0 k k (a.1) (a.2) h))))
  (none)
noncomputable def corbelref3_Inv.body : Code := (Try.f25.body).getD .skip
noncomputable def corbelref3_Inv.c26 : Code := cat corbelref3_Inv.body [1, 0, 1, 0, 0]
set_option maxRecDepth 100000 in
theorem corbelref3_Inv.TS {C : FuncId → Bool} {X : CallF} (hX : XOk C X) (k : Nat) : TblS Try.prog C X (corbelref3_Inv.T k) := by
  refine tblOf_sound ?_
  intro e he
  rcases List.mem_cons.1 he with rfl | he
  · exact wr_told (corbelref3_Mul.told hX k)
  exact absurd he List.not_mem_nil
set_option maxRecDepth 100000 in
theorem corbelref3_Inv.l0_pass {C : FuncId → Bool} {X : CallF} (hX : XOk C X) (k n : Nat) : PassS Try.prog C X 16 (.loop corbelref3_Inv.c26) (lrun [(0, (.int .u8)), (4, (.int .i64))] (some [(2, (.int .u8)), (3, .bool)]) [] 0 (fun a h => corbelref3_Inv.l0 k n (a.1) (a.2) h)) :=
  loop_pass (ins := [(0, (.int .u8)), (4, (.int .i64))]) (rets := (some [(2, (.int .u8)), (3, .bool)])) (outs := []) (id := 0) (tbl := corbelref3_Inv.T k) (an := corbelref3_Inv.an k) (pb := 52) (corbelref3_Inv.TS hX k) (fun n => (fun a h => corbelref3_Inv.l0 k n (a.1) (a.2) h)) (fun a h => rfl) (fun n a h => by kernel_rfl)
    (by
      have e : need (corbelref3_Inv.an k) corbelref3_Inv.c26 52 = [] := by kernel_rfl
      rw [e]; intro q hq; cases hq) n
set_option maxRecDepth 100000 in
theorem corbelref3_Inv.eq (k : Nat) (a : RT [(.int .u8)]) (h : H) : (fun a h => corbelref3_Inv.f k a h) a h = kfun Try.prog (corbelref3_Inv.T k) (corbelref3_Inv.an k) (RT [(.int .u8), .bool] × H) Try.f25 (encL [(.int .u8)] a) h (fun vs h' => (decL [(.int .u8), .bool] vs).bind fun x => some (x, h')) := by kernel_rfl
set_option maxRecDepth 100000 in
theorem corbelref3_Inv.told {C : FuncId → Bool} {X : CallF} (hX : XOk C X) (k : Nat) : Den.Told Try.prog C X 25 [(.int .u8)] [(.int .u8), .bool] (fun a h => corbelref3_Inv.f k a h) :=
  told_of fun a h q e => fn_of (c := corbelref3_Inv.body) (corbelref3_Inv.TS hX k) Try.func25 (by kernel_rfl) (hX.no 25 _ h (by decide))
    (by
      have e : need (corbelref3_Inv.an k) corbelref3_Inv.body 1 = [(Code.loop corbelref3_Inv.c26, lrun [(0, (.int .u8)), (4, (.int .i64))] (some [(2, (.int .u8)), (3, .bool)]) [] 0 (fun a h => corbelref3_Inv.l0 k k (a.1) (a.2) h))] := by kernel_rfl
      rw [e]; intro q hq
      rcases List.mem_cons.1 hq with rfl | hq
      · exact corbelref3_Inv.l0_pass hX k k
      cases hq)
    ((corbelref3_Inv.eq k a h).symm.trans e)
/-! ### corbel/corbelref3.Inverse -/
noncomputable def corbelref3_Inverse.l1 (k : Nat) (n : Nat) : Sl → Int → Sl → Int → Sl → Int → H → Option ((Unit) × H) :=
  Nat.rec (motive := fun _ => Sl → Int → Sl → Int → Sl → Int → H → Option ((Unit) × H)) (fun _ _ _ _ _ _ _ => none) (fun _ ih x13 x14 x15 x16 x17 x18 h19 => cond (decide (x18 < (Int.ofNat x13.n)))
      ((corbelref3_without.f k x13 x18 x16 h19).bind fun q20 =>
    (corbelref3_Det.f k q20.1 q20.2).bind fun q21 =>
    (corbelref3_Mul.f k x14 q21.1 q21.2).bind fun q22 =>
    (asP (ixs 1 x17.a x17.n x18)).bind fun p23 =>
    (stv 1 q22.2 p23 [(Value.int .u8 q22.1)]).bind fun q24 =>
    ih x13 x14 x15 x16 x17 (wrapA .i64 (x18 + (1 : Int))) q24.2)
      (some ((), h19))) n
theorem corbelref3_Inverse.l1_zero (k : Nat) (x13 : Sl) (x14 : Int) (x15 : Sl) (x16 : Int) (x17 : Sl) (x18 : Int) (h19 : H) : corbelref3_Inverse.l1 k 0 x13 x14 x15 x16 x17 x18 h19 = none := rfl
theorem corbelref3_Inverse.l1_succ (k n : Nat) (x13 : Sl) (x14 : Int) (x15 : Sl) (x16 : Int) (x17 : Sl) (x18 : Int) (h19 : H) : corbelref3_Inverse.l1 k (n + 1) x13 x14 x15 x16 x17 x18 h19 = (cond (decide (x18 < (Int.ofNat x13.n)))
      ((corbelref3_without.f k x13 x18 x16 h19).bind fun q20 =>
    (corbelref3_Det.f k q20.1 q20.2).bind fun q21 =>
    (corbelref3_Mul.f k x14 q21.1 q21.2).bind fun q22 =>
    (asP (ixs 1 x17.a x17.n x18)).bind fun p23 =>
    (stv 1 q22.2 p23 [(Value.int .u8 q22.1)]).bind fun q24 =>
    corbelref3_Inverse.l1 k n x13 x14 x15 x16 x17 (wrapA .i64 (x18 + (1 : Int))) q24.2)
      (some ((), h19))) := rfl
noncomputable def corbelref3_Inverse.l0 (k : Nat) (n : Nat) : Sl → Int → Sl → Int → H → Option ((Sl) × H) :=
  Nat.rec (motive := fun _ => Sl → Int → Sl → Int → H → Option ((Sl) × H)) (fun _ _ _ _ _ => none) (fun _ ih x7 x8 x9 x10 h11 => cond (decide (x10 < (Int.ofNat x7.n)))
      ((asS2 (mkz 5 1 1 [(Value.int .u8 (0 : Int))] (Int.ofNat x7.n) (Int.ofNat x7.n) h11)).bind fun q12 =>
    (corbelref3_Inverse.l1 k k x7 x8 x9 x10 q12.1 (0 : Int) q12.2).bind fun w25 =>
    (asS2 (apv 40 1 24 (Value.slice x9.a x9.n x9.c) (Value.slice (some ⟨w25.2.next, 0, none⟩) 1 1) (newR w25.2 40 1 [(Value.slice q12.1.a q12.1.n q12.1.c)]))).bind fun q26 =>
    ih x7 x8 q26.1 (wrapA .i64 (x10 + (1 : Int))) q26.2)
      (some (x9, h11))) n
theorem corbelref3_Inverse.l0_zero (k : Nat) (x7 : Sl) (x8 : Int) (x9 : Sl) (x10 : Int) (h11 : H) : corbelref3_Inverse.l0 k 0 x7 x8 x9 x10 h11 = none := rfl
theorem corbelref3_Inverse.l0_succ (k n : Nat) (x7 : Sl) (x8 : Int) (x9 : Sl) (x10 : Int) (h11 : H) : corbelref3_Inverse.l0 k (n + 1) x7 x8 x9 x10 h11 = (cond (decide (x10 < (Int.ofNat x7.n)))
      ((asS2 (mkz 5 1 1 [(Value.int .u8 (0 : Int))] (Int.ofNat x7.n) (Int.ofNat x7.n) h11)).bind fun q12 =>
    (corbelref3_Inverse.l1 k k x7 x8 x9 x10 q12.1 (0 : Int) q12.2).bind fun w25 =>
    (asS2 (apv 40 1 24 (Value.slice x9.a x9.n x9.c) (Value.slice (some ⟨w25.2.next, 0, none⟩) 1 1) (newR w25.2 40 1 [(Value.slice q12.1.a q12.1.n q12.1.c)]))).bind fun q26 =>
    corbelref3_Inverse.l0 k n x7 x8 q26.1 (wrapA .i64 (x10 + (1 : Int))) q26.2)
      (some (x9, h11))) := rfl
noncomputable def corbelref3_Inverse.f (k : Nat) (a0 : Sl) (h : H) : Option ((Sl × Bool) × H) :=
  (corbelref3_RightMatrix.f k a0 h).bind fun q1 =>
    (cond (!q1.1) (some (true, q1.2))
      ((asP (ixs 1 a0.a a0.n (0 : Int))).bind fun p2 =>
    (asS (ldc q1.2 p2)).bind fun s3 =>
    some ((Int.ofNat a0.n) != (Int.ofNat s3.n), q1.2))).bind fun g4 =>
    cond g4.1
      (some (((⟨none, 0, 0⟩ : Sl), false), g4.2))
      ((corbelref3_Det.f k a0 g4.2).bind fun q5 =>
    (corbelref3_Inv.f k q5.1 q5.2).bind fun q6 =>
    cond (!q6.1.2)
      (some (((⟨none, 0, 0⟩ : Sl), false), q6.2))
      ((corbelref3_Inverse.l0 k k a0 q6.1.1 (⟨none, 0, 0⟩ : Sl) (0 : Int) q6.2).bind fun w27 =>
    some ((w27.1, true), w27.2)))
noncomputable def corbelref3_Inverse.T (k : Nat) : Tbl := tblOf [⟨39, anyArgs, wr [.sl] [.bool] (fun a h => corbelref3_RightMatrix.f k a h)⟩,
  ⟨62, anyArgs, wr [.sl] [(.int .u8)] (fun a h => corbelref3_Det.f k a h)⟩,
  ⟨25, anyArgs, wr [(.int .u8)] [(.int .u8), .bool] (fun a h => corbelref3_Inv.f k a h)⟩,
  ⟨63, anyArgs, wr [.sl, (.int .i64), (.int .i64)] [.sl] (fun a h => corbelref3_without.f k (a.1) (a.2.1) (a.2.2) h)⟩,
  ⟨26, anyArgs, wr [(.int .u8), (.int .u8)] [(.int .u8)] (fun a h => corbelref3_Mul.f k (a.1) (a.2) h)⟩]
noncomputable def corbelref3_Inverse.an (k : Nat) (p : Nat) : Option Ann := cond (Nat.beq p 506) (some (.pass [] (lrun [(0, .sl), (4, (.int .u8)), (6, .sl), (7, (.int .i64))] none [(6, .sl)] 0 (fun a h => corbelref3_Inverse.l0 k k (a.1) (a.2.1) (a.2.2.1) (a.2.2.2) h))))
  (cond (Nat.beq p 129610) (some (.pass [0, 4, 6, 7, 8] (lrun [(0, .sl), (4, (.int .u8)), (6, .sl), (7, (.int .i64)), (8, .sl), (9, (.int .i64))] none [] 2 (fun a h => corbelref3_Inverse.l1 k k (a.1) (a.2.1) (a.2.2.1) (a.2.2.2.1) (a.2.2.2.2.1) (a.2.2.2.2.2) h))))
  (none))
noncomputable def corbelref3_Inverse.body : Code := (Try.f38.body).getD .skip
noncomputable def corbelref3_Inverse.c506 : Code := cat corbelref3_Inverse.body [1, 1, 1, 1, 1, 0, 1, 0, 0]
noncomputable def corbelref3_Inverse.c129610 : Code := cat corbelref3_Inverse.body [1, 1, 1, 1, 1, 0, 1, 0, 0, 1, 0, 0, 1, 0, 1, 0, 0]
set_option maxRecDepth 100000 in
theorem corbelref3_Inverse.TS {C : FuncId → Bool} {X : CallF} (hX : XOk C X) (k : Nat) : TblS Try.prog C X (corbelref3_Inverse.T k) := by
  refine tblOf_sound ?_
  intro e he
  rcases List.mem_cons.1 he with rfl | he
  · exact wr_told (corbelref3_RightMatrix.told hX k)
  rcases List.mem_cons.1 he with rfl | he
  · exact wr_told (corbelref3_Det.told hX k)
  rcases List.mem_cons.1 he with rfl | he
  · exact wr_told (corbelref3_Inv.told hX k)
  rcases List.mem_cons.1 he with rfl | he
  · exact wr_told (corbelref3_without.told hX k)
  rcases List.mem_cons.1 he with rfl | he
  · exact wr_told (corbelref3_Mul.told hX k)
  exact absurd he List.not_mem_nil
set_option maxRecDepth 100000 in
theorem corbelref3_Inverse.l1_pass {C : FuncId → Bool} {X : CallF} (hX : XOk C X) (k n : Nat) : PassS Try.prog C X 60 (.loop corbelref3_Inverse.c129610) (lrun [(0, .sl), (4, (.int .u8)), (6, .sl), (7, (.int .i64)), (8, .sl), (9, (.int .i64))] none [] 2 (fun a h => corbelref3_Inverse.l1 k n (a.1) (a.2.1) (a.2.2.1) (a.2.2.2.1) (a.2.2.2.2.1) (a.2.2.2.2.2) h)) :=
  loop_pass (ins := [(0, .sl), (4, (.int .u8)), (6, .sl), (7, (.int .i64)), (8, .sl), (9, (.int .i64))]) (rets := none) (outs := []) (id := 2) (tbl := corbelref3_Inverse.T k) (an := corbelref3_Inverse.an k) (pb := 259220) (corbelref3_Inverse.TS hX k) (fun n => (fun a h => corbelref3_Inverse.l1 k n (a.1) (a.2.1) (a.2.2.1) (a.2.2.2.1) (a.2.2.2.2.1) (a.2.2.2.2.2) h)) (fun a h => rfl) (fun n a h => by kernel_rfl)
    (by
      have e : need (corbelref3_Inverse.an k) corbelref3_Inverse.c129610 259220 = [] := by kernel_rfl
      rw [e]; intro q hq; cases hq) n
set_option maxRecDepth 100000 in
theorem corbelref3_Inverse.l0_pass {C : FuncId → Bool} {X : CallF} (hX : XOk C X) (k n : Nat) : PassS Try.prog C X 60 (.loop corbelref3_Inverse.c506) (lrun [(0, .sl), (4, (.int .u8)), (6, .sl), (7, (.int .i64))] none [(6, .sl)] 0 (fun a h => corbelref3_Inverse.l0 k n (a.1) (a.2.1) (a.2.2.1) (a.2.2.2) h)) :=
  loop_pass (ins := [(0, .sl), (4, (.int .u8)), (6, .sl), (7, (.int .i64))]) (rets := none) (outs := [(6, .sl)]) (id := 0) (tbl := corbelref3_Inverse.T k) (an := corbelref3_Inverse.an k) (pb := 1012) (corbelref3_Inverse.TS hX k) (fun n => (fun a h => corbelref3_Inverse.l0 k n (a.1) (a.2.1) (a.2.2.1) (a.2.2.2) h)) (fun a h => rfl) (fun n a h => by kernel_rfl)
    (by
      have e : need (corbelref3_Inverse.an k) corbelref3_Inverse.c506 1012 = [(Code.loop corbelref3_Inverse.c129610, lrun [(0, .sl), (4, (.int .u8)), (6, .sl), (7, (.int .i64)), (8, .sl), (9, (.int .i64))] none [] 2 (fun a h => corbelref3_Inverse.l1 k k (a.1) (a.2.1) (a.2.2.1) (a.2.2.2.1) (a.2.2.2.2.1) (a.2.2.2.2.2) h))] := by kernel_rfl
      rw [e]; intro q hq
      rcases List.mem_cons.1 hq with rfl | hq
      · exact corbelref3_Inverse.l1_pass hX k k
      cases hq) n
set_option maxRecDepth 100000 in
theorem corbelref3_Inverse.eq (k : Nat) (a : RT [.sl]) (h : H) : (fun a h => corbelref3_Inverse.f k a h) a h = kfun Try.prog (corbelref3_Inverse.T k) (corbelref3_Inverse.an k) (RT [.sl, .bool] × H) Try.f38 (encL [.sl] a) h (fun vs h' => (decL [.sl, .bool] vs).bind fun x => some (x, h')) := by kernel_rfl
set_option maxRecDepth 100000 in
theorem corbelref3_Inverse.told {C : FuncId → Bool} {X : CallF} (hX : XOk C X) (k : Nat) : Den.Told Try.prog C X 38 [.sl] [.sl, .bool] (fun a h => corbelref3_Inverse.f k a h) :=
  told_of fun a h q e => fn_of (c := corbelref3_Inverse.body) (corbelref3_Inverse.TS hX k) Try.func38 (by kernel_rfl) (hX.no 38 _ h (by decide))
    (by
      have e : need (corbelref3_Inverse.an k) corbelref3_Inverse.body 1 = [(Code.loop corbelref3_Inverse.c506, lrun [(0, .sl), (4, (.int .u8)), (6, .sl), (7, (.int .i64))] none [(6, .sl)] 0 (fun a h => corbelref3_Inverse.l0 k k (a.1) (a.2.1) (a.2.2.1) (a.2.2.2) h))] := by kernel_rfl
      rw [e]; intro q hq
      rcases List.mem_cons.1 hq with rfl | hq
      · exact corbelref3_Inverse.l0_pass hX k k
      cases hq)
    ((corbelref3_Inverse.eq k a h).symm.trans e)
/-! ### corbel/corbelref3.MulMatrix -/
noncomputable def corbelref3_MulMatrix.l2 (k : Nat) (n : Nat) : Sl → Sl → Sl → Int → Sl → Int → Int → H → Option ((Unit) × H) :=
  Nat.rec (motive := fun _ => Sl → Sl → Sl → Int → Sl → Int → Int → H → Option ((Unit) × H)) (fun _ _ _ _ _ _ _ _ => none) (fun _ ih x22 x23 x24 x25 x26 x27 x28 h29 => cond (decide (x28 < (Int.ofNat x23.n)))
      ((asP (ixs 1 x26.a x26.n x27)).bind fun p30 =>
    (asI .u8 (ldc h29 p30)).bind fun n31 =>
    (asP (ixs 1 x22.a x22.n x25)).bind fun p32 =>
    (asS (ldc h29 p32)).bind fun s33 =>
    (asP (ixs 1 s33.a s33.n x28)).bind fun p34 =>
    (asI .u8 (ldc h29 p34)).bind fun n35 =>
    (asP (ixs 1 x23.a x23.n x28)).bind fun p36 =>
    (asS (ldc h29 p36)).bind fun s37 =>
    (asP (ixs 1 s37.a s37.n x27)).bind fun p38 =>
    (asI .u8 (ldc h29 p38)).bind fun n39 =>
    (corbelref3_Mul.f k n35 n39 h29).bind fun q40 =>
    (asI .u8 (intA .xor .u8 n31 q40.1)).bind fun n41 =>
    (asP (ixs 1 x26.a x26.n x27)).bind fun p42 =>
    (stv 1 q40.2 p42 [(Value.int .u8 n41)]).bind fun q43 =>
    cond (same1 h29 q40.2 (some (Value.pointer p30)) && (true)) (ih x22 x23 x24 x25 x26 x27 (wrapA .i64 (x28 + (1 : Int))) q43.2) none)
      (some ((), h29))) n
theorem corbelref3_MulMatrix.l2_zero (k : Nat) (x22 : Sl) (x23 : Sl) (x24 : Sl) (x25 : Int) (x26 : Sl) (x27 : Int) (x28 : Int) (h29 : H) : corbelref3_MulMatrix.l2 k 0 x22 x23 x24 x25 x26 x27 x28 h29 = none := rfl
theorem corbelref3_MulMatrix.l2_succ (k n : Nat) (x22 : Sl) (x23 : Sl) (x24 : Sl) (x25 : Int) (x26 : Sl) (x27 : Int) (x28 : Int) (h29 : H) : corbelref3_MulMatrix.l2 k (n + 1) x22 x23 x24 x25 x26 x27 x28 h29 = (cond (decide (x28 < (Int.ofNat x23.n)))
      ((asP (ixs 1 x26.a x26.n x27)).bind fun p30 =>
    (asI .u8 (ldc h29 p30)).bind fun n31 =>
    (asP (ixs 1 x22.a x22.n x25)).bind fun p32 =>
    (asS (ldc h29 p32)).bind fun s33 =>
    (asP (ixs 1 s33.a s33.n x28)).bind fun p34 =>
    (asI .u8 (ldc h29 p34)).bind fun n35 =>
    (asP (ixs 1 x23.a x23.n x28)).bind fun p36 =>
    (asS (ldc h29 p36)).bind fun s37 =>
    (asP (ixs 1 s37.a s37.n x27)).bind fun p38 =>
    (asI .u8 (ldc h29 p38)).bind fun n39 =>
    (corbelref3_Mul.f k n35 n39 h29).bind fun q40 =>
    (asI .u8 (intA .xor .u8 n31 q40.1)).bind fun n41 =>
    (asP (ixs 1 x26.a x26.n x27)).bind fun p42 =>
    (stv 1 q40.2 p42 [(Value.int .u8 n41)]).bind fun q43 =>
    cond (same1 h29 q40.2 (some (Value.pointer p30)) && (true)) (corbelref3_MulMatrix.l2 k n x22 x23 x24 x25 x26 x27 (wrapA .i64 (x28 + (1 : Int))) q43.2) none)
      (some ((), h29))) := rfl
noncomputable def corbelref3_MulMatrix.l1 (k : Nat) (n : Nat) : Sl → Sl → Sl → Int → Sl → Int → H → Option ((Unit) × H) :=
  Nat.rec (motive := fun _ => Sl → Sl → Sl → Int → Sl → Int → H → Option ((Unit) × H)) (fun _ _ _ _ _ _ _ => none) (fun _ ih x15 x16 x17 x18 x19 x20 h21 => cond (decide (x20 < (Int.ofNat x19.n)))
      ((corbelref3_MulMatrix.l2 k k x15 x16 x17 x18 x19 x20 (0 : Int) h21).bind fun w44 =>
    ih x15 x16 x17 x18 x19 (wrapA .i64 (x20 + (1 : Int))) w44.2)
      (some ((), h21))) n
theorem corbelref3_MulMatrix.l1_zero (k : Nat) (x15 : Sl) (x16 : Sl) (x17 : Sl) (x18 : Int) (x19 : Sl) (x20 : Int) (h21 : H) : corbelref3_MulMatrix.l1 k 0 x15 x16 x17 x18 x19 x20 h21 = none := rfl
theorem corbelref3_MulMatrix.l1_succ (k n : Nat) (x15 : Sl) (x16 : Sl) (x17 : Sl) (x18 : Int) (x19 : Sl) (x20 : Int) (h21 : H) : corbelref3_MulMatrix.l1 k (n + 1) x15 x16 x17 x18 x19 x20 h21 = (cond (decide (x20 < (Int.ofNat x19.n)))
      ((corbelref3_MulMatrix.l2 k k x15 x16 x17 x18 x19 x20 (0 : Int) h21).bind fun w44 =>
    corbelref3_MulMatrix.l1 k n x15 x16 x17 x18 x19 (wrapA .i64 (x20 + (1 : Int))) w44.2)
      (some ((), h21))) := rfl
noncomputable def corbelref3_MulMatrix.l0 (k : Nat) (n : Nat) : Sl → Sl → Sl → Int → H → Option ((Sl) × H) :=
  Nat.rec (motive := fun _ => Sl → Sl → Sl → Int → H → Option ((Sl) × H)) (fun _ _ _ _ _ => none) (fun _ ih x7 x8 x9 x10 h11 => cond (decide (x10 < (Int.ofNat x7.n)))
      ((asP (ixs 1 x8.a x8.n (0 : Int))).bind fun p12 =>
    (asS (ldc h11 p12)).bind fun s13 =>
    (asS2 (mkz 5 1 1 [(Value.int .u8 (0 : Int))] (Int.ofNat s13.n) (Int.ofNat s13.n) h11)).bind fun q14 =>
    (corbelref3_MulMatrix.l1 k k x7 x8 x9 x10 q14.1 (0 : Int) q14.2).bind fun w45 =>
    (asS2 (apv 40 1 24 (Value.slice x9.a x9.n x9.c) (Value.slice (some ⟨w45.2.next, 0, none⟩) 1 1) (newR w45.2 40 1 [(Value.slice q14.1.a q14.1.n q14.1.c)]))).bind fun q46 =>
    ih x7 x8 q46.1 (wrapA .i64 (x10 + (1 : Int))) q46.2)
      (some (x9, h11))) n
theorem corbelref3_MulMatrix.l0_zero (k : Nat) (x7 : Sl) (x8 : Sl) (x9 : Sl) (x10 : Int) (h11 : H) : corbelref3_MulMatrix.l0 k 0 x7 x8 x9 x10 h11 = none := rfl
theorem corbelref3_MulMatrix.l0_succ (k n : Nat) (x7 : Sl) (x8 : Sl) (x9 : Sl) (x10 : Int) (h11 : H) : corbelref3_MulMatrix.l0 k (n + 1) x7 x8 x9 x10 h11 = (cond (decide (x10 < (Int.ofNat x7.n)))
      ((asP (ixs 1 x8.a x8.n (0 : Int))).bind fun p12 =>
    (asS (ldc h11 p12)).bind fun s13 =>
    (asS2 (mkz 5 1 1 [(Value.int .u8 (0 : Int))] (Int.ofNat s13.n) (Int.ofNat s13.n) h11)).bind fun q14 =>
    (corbelref3_MulMatrix.l1 k k x7 x8 x9 x10 q14.1 (0 : Int) q14.2).bind fun w45 =>
    (asS2 (apv 40 1 24 (Value.slice x9.a x9.n x9.c) (Value.slice (some ⟨w45.2.next, 0, none⟩) 1 1) (newR w45.2 40 1 [(Value.slice q14.1.a q14.1.n q14.1.c)]))).bind fun q46 =>
    corbelref3_MulMatrix.l0 k n x7 x8 q46.1 (wrapA .i64 (x10 + (1 : Int))) q46.2)
      (some (x9, h11))) := rfl
noncomputable def corbelref3_MulMatrix.f (k : Nat) (a0 : Sl) (a1 : Sl) (h : H) : Option ((Sl) × H) :=
  (corbelref3_RightMatrix.f k a0 h).bind fun q1 =>
    (cond (!q1.1) (some (true, q1.2))
      ((corbelref3_RightMatrix.f k a1 q1.2).bind fun q2 =>
    some (!q2.1, q2.2))).bind fun g3 =>
    (cond g3.1 (some (true, g3.2))
      ((asP (ixs 1 a0.a a0.n (0 : Int))).bind fun p4 =>
    (asS (ldc g3.2 p4)).bind fun s5 =>
    some ((Int.ofNat s5.n) != (Int.ofNat a1.n), g3.2))).bind fun g6 =>
    cond g6.1
      (some ((⟨none, 0, 0⟩ : Sl), g6.2))
      ((corbelref3_MulMatrix.l0 k k a0 a1 (⟨none, 0, 0⟩ : Sl) (0 : Int) g6.2).bind fun w47 =>
    some (w47.1, w47.2))
noncomputable def corbelref3_MulMatrix.T (k : Nat) : Tbl := tblOf [⟨39, anyArgs, wr [.sl] [.bool] (fun a h => corbelref3_RightMatrix.f k a h)⟩,
  ⟨26, anyArgs, wr [(.int .u8), (.int .u8)] [(.int .u8)] (fun a h => corbelref3_Mul.f k (a.1) (a.2) h)⟩]
noncomputable def corbelref3_MulMatrix.an (k : Nat) (p : Nat) : Option Ann := cond (Nat.beq p 122) (some (.pass [] (lrun [(0, .sl), (1, .sl), (5, .sl), (6, (.int .i64))] none [(5, .sl)] 0 (fun a h => corbelref3_MulMatrix.l0 k k (a.1) (a.2.1) (a.2.2.1) (a.2.2.2) h))))
  (cond (Nat.beq p 31306) (some (.pass [0, 1, 5, 6, 7] (lrun [(0, .sl), (1, .sl), (5, .sl), (6, (.int .i64)), (7, .sl), (8, (.int .i64))] none [] 2 (fun a h => corbelref3_MulMatrix.l1 k k (a.1) (a.2.1) (a.2.2.1) (a.2.2.2.1) (a.2.2.2.2.1) (a.2.2.2.2.2) h))))
  (cond (Nat.beq p 2003602) (some (.pass [0, 1, 5, 6, 7, 8] (lrun [(0, .sl), (1, .sl), (5, .sl), (6, (.int .i64)), (7, .sl), (8, (.int .i64)), (9, (.int .i64))] none [] 4 (fun a h => corbelref3_MulMatrix.l2 k k (a.1) (a.2.1) (a.2.2.1) (a.2.2.2.1) (a.2.2.2.2.1) (a.2.2.2.2.2.1) (a.2.2.2.2.2.2) h))))
  (none)))
noncomputable def corbelref3_MulMatrix.body : Code := (Try.f40.body).getD .skip
noncomputable def corbelref3_MulMatrix.c122 : Code := cat corbelref3_MulMatrix.body [1, 1, 1, 0, 1, 0, 0]
noncomputable def corbelref3_MulMatrix.c31306 : Code := cat corbelref3_MulMatrix.body [1, 1, 1, 0, 1, 0, 0, 1, 0, 0, 1, 0, 1, 0, 0]
noncomputable def corbelref3_MulMatrix.c2003602 : Code := cat corbelref3_MulMatrix.body [1, 1, 1, 0, 1, 0, 0, 1, 0, 0, 1, 0, 1, 0, 0, 1, 0, 0, 1, 0, 0]
set_option maxRecDepth 100000 in
theorem corbelref3_MulMatrix.TS {C : FuncId → Bool} {X : CallF} (hX : XOk C X) (k : Nat) : TblS Try.prog C X (corbelref3_MulMatrix.T k) := by
  refine tblOf_sound ?_
  intro e he
  rcases List.mem_cons.1 he with rfl | he
  · exact wr_told (corbelref3_RightMatrix.told hX k)
  rcases List.mem_cons.1 he with rfl | he
  · exact wr_told (corbelref3_Mul.told hX k)
  exact absurd he List.not_mem_nil
set_option maxRecDepth 100000 in
theorem corbelref3_MulMatrix.l2_pass {C : FuncId → Bool} {X : CallF} (hX : XOk C X) (k n : Nat) : PassS Try.prog C X 78 (.loop corbelref3_MulMatrix.c2003602) (lrun [(0, .sl), (1, .sl), (5, .sl), (6, (.int .i64)), (7, .sl), (8, (.int .i64)), (9, (.int .i64))] none [] 4 (fun a h => corbelref3_MulMatrix.l2 k n (a.1) (a.2.1) (a.2.2.1) (a.2.2.2.1) (a.2.2.2.2.1) (a.2.2.2.2.2.1) (a.2.2.2.2.2.2) h)) :=
  loop_pass (ins := [(0, .sl), (1, .sl), (5, .sl), (6, (.int .i64)), (7, .sl), (8, (.int .i64)), (9, (.int .i64))]) (rets := none) (outs := []) (id := 4) (tbl := corbelref3_MulMatrix.T k) (an := corbelref3_MulMatrix.an k) (pb := 4007204) (corbelref3_MulMatrix.TS hX k) (fun n => (fun a h => corbelref3_MulMatrix.l2 k n (a.1) (a.2.1) (a.2.2.1) (a.2.2.2.1) (a.2.2.2.2.1) (a.2.2.2.2.2.1) (a.2.2.2.2.2.2) h)) (fun a h => rfl) (fun n a h => by kernel_rfl)
    (by
      have e : need (corbelref3_MulMatrix.an k) corbelref3_MulMatrix.c2003602 4007204 = [] := by kernel_rfl
      rw [e]; intro q hq; cases hq) n
set_option maxRecDepth 100000 in
theorem corbelref3_MulMatrix.l1_pass {C : FuncId → Bool} {X : CallF} (hX : XOk C X) (k n : Nat) : PassS Try.prog C X 78 (.loop corbelref3_MulMatrix.c31306) (lrun [(0, .sl), (1, .sl), (5, .sl), (6, (.int .i64)), (7, .sl), (8, (.int .i64))] none [] 2 (fun a h => corbelref3_MulMatrix.l1 k n (a.1) (a.2.1) (a.2.2.1) (a.2.2.2.1) (a.2.2.2.2.1) (a.2.2.2.2.2) h)) :=
  loop_pass (ins := [(0, .sl), (1, .sl), (5, .sl), (6, (.int .i64)), (7, .sl), (8, (.int .i64))]) (rets := none) (outs := []) (id := 2) (tbl := corbelref3_MulMatrix.T k) (an := corbelref3_MulMatrix.an k) (pb := 62612) (corbelref3_MulMatrix.TS hX k) (fun n => (fun a h => corbelref3_MulMatrix.l1 k n (a.1) (a.2.1) (a.2.2.1) (a.2.2.2.1) (a.2.2.2.2.1) (a.2.2.2.2.2) h)) (fun a h => rfl) (fun n a h => by kernel_rfl)
    (by
      have e : need (corbelref3_MulMatrix.an k) corbelref3_MulMatrix.c31306 62612 = [(Code.loop corbelref3_MulMatrix.c2003602, lrun [(0, .sl), (1, .sl), (5, .sl), (6, (.int .i64)), (7, .sl), (8, (.int .i64)), (9, (.int .i64))] none [] 4 (fun a h => corbelref3_MulMatrix.l2 k k (a.1) (a.2.1) (a.2.2.1) (a.2.2.2.1) (a.2.2.2.2.1) (a.2.2.2.2.2.1) (a.2.2.2.2.2.2) h))] := by kernel_rfl
      rw [e]; intro q hq
      rcases List.mem_cons.1 hq with rfl | hq
      · exact corbelref3_MulMatrix.l2_pass hX k k
      cases hq) n
set_option maxRecDepth 100000 in
theorem corbelref3_MulMatrix.l0_pass {C : FuncId → Bool} {X : CallF} (hX : XOk C X) (k n : Nat) : PassS Try.prog C X 78 (.loop corbelref3_MulMatrix.c122) (lrun [(0, .sl), (1, .sl), (5, .sl), (6, (.int .i64))] none [(5, .sl)] 0 (fun a h => corbelref3_MulMatrix.l0 k n (a.1) (a.2.1) (a.2.2.1) (a.2.2.2) h)) :=
  loop_pass (ins := [(0, .sl), (1, .sl), (5, .sl), (6, (.int .i64))]) (rets := none) (outs := [(5, .sl)]) (id := 0) (tbl := corbelref3_MulMatrix.T k) (an := corbelref3_MulMatrix.an k) (pb := 244) (corbelref3_MulMatrix.TS hX k) (fun n => (fun a h => corbelref3_MulMatrix.l0 k n (a.1) (a.2.1) (a.2.2.1) (a.2.2.2) h)) (fun a h => rfl) (fun n a h => by kernel_rfl)
    (by
      have e : need (corbelref3_MulMatrix.an k) corbelref3_MulMatrix.c122 244 = [(Code.loop corbelref3_MulMatrix.c31306, lrun [(0, .sl), (1, .sl), (5, .sl), (6, (.int .i64)), (7, .sl), (8, (.int .i64))] none [] 2 (fun a h => corbelref3_MulMatrix.l1 k k (a.1) (a.2.1) (a.2.2.1) (a.2.2.2.1) (a.2.2.2.2.1) (a.2.2.2.2.2) h))] := by kernel_rfl
      rw [e]; intro q hq
      rcases List.mem_cons.1 hq with rfl | hq
      · exact corbelref3_MulMatrix.l1_pass hX k k
      cases hq) n
set_option maxRecDepth 100000 in
theorem corbelref3_MulMatrix.eq (k : Nat) (a : RT [.sl, .sl]) (h : H) : (fun a h => corbelref3_MulMatrix.f k (a.1) (a.2) h) a h = kfun Try.prog (corbelref3_MulMatrix.T k) (corbelref3_MulMatrix.an k) (RT [.sl] × H) Try.f40 (encL [.sl, .sl] a) h (fun vs h' => (decL [.sl] vs).bind fun x => some (x, h')) := by kernel_rfl
set_option maxRecDepth 100000 in
theorem corbelref3_MulMatrix.told {C : FuncId → Bool} {X : CallF} (hX : XOk C X) (k : Nat) : Den.Told Try.prog C X 40 [.sl, .sl] [.sl] (fun a h => corbelref3_MulMatrix.f k (a.1) (a.2) h) :=
  told_of fun a h q e => fn_of (c := corbelref3_MulMatrix.body) (corbelref3_MulMatrix.TS hX k) Try.func40 (by kernel_rfl) (hX.no 40 _ h (by decide))
    (by
      have e : need (corbelref3_MulMatrix.an k) corbelref3_MulMatrix.body 1 = [(Code.loop corbelref3_MulMatrix.c122, lrun [(0, .sl), (1, .sl), (5, .sl), (6, (.int .i64))] none [(5, .sl)] 0 (fun a h => corbelref3_MulMatrix.l0 k k (a.1) (a.2.1) (a.2.2.1) (a.2.2.2) h))] := by kernel_rfl
      rw [e]; intro q hq
      rcases List.mem_cons.1 hq with rfl | hq
      · exact corbelref3_MulMatrix.l0_pass hX k k
      cases hq)
    ((corbelref3_MulMatrix.eq k a h).symm.trans e)
/-! ### corbel/corbelref3.Identity -/
/-! ### corbel/corbellaw4.MatrixTells -/
/-! ### corbel/corbelref3.Row -/
noncomputable def corbelref3_Row.f (k : Nat) (a0 : Int) (h : H) : Option ((Sl) × H) :=
  (cond (decide (a0 ≥ (0 : Int))) (some (decide (a0 < (4 : Int)), h))
      (some (false, h))).bind fun g1 =>
    cond g1.1
      ((asP (ixs 1 (some ⟨g1.2.next, 0, none⟩) 4 a0)).bind fun p2 =>
    (stv 1 (newZ g1.2 5 1 [(Value.int .u8 (0 : Int))] 4) p2 [(Value.int .u8 (1 : Int))]).bind fun q3 =>
    some ((⟨(some ⟨g1.2.next, 0, none⟩), 4, 4⟩ : Sl), q3.2))
      (cond (a0 == (4 : Int))
      (some ((⟨(some ⟨g1.2.next, 0, none⟩), 4, 4⟩ : Sl), (newR g1.2 5 1 [(Value.int .u8 (1 : Int)), (Value.int .u8 (1 : Int)), (Value.int .u8 (1 : Int)), (Value.int .u8 (1 : Int))])))
      (cond (a0 == (5 : Int))
      (some ((⟨(some ⟨g1.2.next, 0, none⟩), 4, 4⟩ : Sl), (newR g1.2 5 1 [(Value.int .u8 (1 : Int)), (Value.int .u8 (2 : Int)), (Value.int .u8 (4 : Int)), (Value.int .u8 (8 : Int))])))
      (some ((⟨none, 0, 0⟩ : Sl), g1.2))))
noncomputable def corbelref3_Row.T (k : Nat) : Tbl := tblOf []
noncomputable def corbelref3_Row.an (k : Nat) (p : Nat) : Option Ann := none
noncomputable def corbelref3_Row.body : Code := (Try.f65.body).getD .skip
set_option maxRecDepth 100000 in
theorem corbelref3_Row.TS {C : FuncId → Bool} {X : CallF} (hX : XOk C X) (k : Nat) : TblS Try.prog C X (corbelref3_Row.T k) := by
  refine tblOf_sound ?_
  intro e he
  exact absurd he List.not_mem_nil
set_option maxRecDepth 100000 in
theorem corbelref3_Row.eq (k : Nat) (a : RT [(.int .i64)]) (h : H) : (fun a h => corbelref3_Row.f k a h) a h = kfun Try.prog (corbelref3_Row.T k) (corbelref3_Row.an k) (RT [.sl] × H) Try.f65 (encL [(.int .i64)] a) h (fun vs h' => (decL [.sl] vs).bind fun x => some (x, h')) := by kernel_rfl
set_option maxRecDepth 100000 in
theorem corbelref3_Row.told {C : FuncId → Bool} {X : CallF} (hX : XOk C X) (k : Nat) : Den.Told Try.prog C X 65 [(.int .i64)] [.sl] (fun a h => corbelref3_Row.f k a h) :=
  told_of fun a h q e => fn_of (c := corbelref3_Row.body) (corbelref3_Row.TS hX k) Try.func65 (by kernel_rfl) (hX.no 65 _ h (by decide))
    (by
      have e : need (corbelref3_Row.an k) corbelref3_Row.body 1 = [] := by kernel_rfl
      rw [e]; intro q hq; cases hq)
    ((corbelref3_Row.eq k a h).symm.trans e)
/-! ### corbel/corbelref3.Encode -/
noncomputable def corbelref3_Encode.l2 (k : Nat) (n : Nat) : Sl → Sl → Int → Sl → Sl → Int → Int → H → Option ((Unit) × H) :=
  Nat.rec (motive := fun _ => Sl → Sl → Int → Sl → Sl → Int → Int → H → Option ((Unit) × H)) (fun _ _ _ _ _ _ _ _ => none) (fun _ ih x13 x14 x15 x16 x17 x18 x19 h20 => cond (decide (x19 < (4 : Int)))
      ((asP (ixs 1 x17.a x17.n x18)).bind fun p21 =>
    (asI .u8 (ldc h20 p21)).bind fun n22 =>
    (asP (ixs 1 x16.a x16.n x19)).bind fun p23 =>
    (asI .u8 (ldc h20 p23)).bind fun n24 =>
    (asP (ixs 1 x13.a x13.n (wrapA .i64 ((wrapA .i64 (x19 * (32 : Int))) + x18)))).bind fun p25 =>
    (asI .u8 (ldc h20 p25)).bind fun n26 =>
    (corbelref3_Mul.f k n24 n26 h20).bind fun q27 =>
    (asI .u8 (intA .xor .u8 n22 q27.1)).bind fun n28 =>
    (asP (ixs 1 x17.a x17.n x18)).bind fun p29 =>
    (stv 1 q27.2 p29 [(Value.int .u8 n28)]).bind fun q30 =>
    cond (same1 h20 q27.2 (some (Value.pointer p21)) && (true)) (ih x13 x14 x15 x16 x17 x18 (wrapA .i64 (x19 + (1 : Int))) q30.2) none)
      (some ((), h20))) n
theorem corbelref3_Encode.l2_zero (k : Nat) (x13 : Sl) (x14 : Sl) (x15 : Int) (x16 : Sl) (x17 : Sl) (x18 : Int) (x19 : Int) (h20 : H) : corbelref3_Encode.l2 k 0 x13 x14 x15 x16 x17 x18 x19 h20 = none := rfl
theorem corbelref3_Encode.l2_succ (k n : Nat) (x13 : Sl) (x14 : Sl) (x15 : Int) (x16 : Sl) (x17 : Sl) (x18 : Int) (x19 : Int) (h20 : H) : corbelref3_Encode.l2 k (n + 1) x13 x14 x15 x16 x17 x18 x19 h20 = (cond (decide (x19 < (4 : Int)))
      ((asP (ixs 1 x17.a x17.n x18)).bind fun p21 =>
    (asI .u8 (ldc h20 p21)).bind fun n22 =>
    (asP (ixs 1 x16.a x16.n x19)).bind fun p23 =>
    (asI .u8 (ldc h20 p23)).bind fun n24 =>
    (asP (ixs 1 x13.a x13.n (wrapA .i64 ((wrapA .i64 (x19 * (32 : Int))) + x18)))).bind fun p25 =>
    (asI .u8 (ldc h20 p25)).bind fun n26 =>
    (corbelref3_Mul.f k n24 n26 h20).bind fun q27 =>
    (asI .u8 (intA .xor .u8 n22 q27.1)).bind fun n28 =>
    (asP (ixs 1 x17.a x17.n x18)).bind fun p29 =>
    (stv 1 q27.2 p29 [(Value.int .u8 n28)]).bind fun q30 =>
    cond (same1 h20 q27.2 (some (Value.pointer p21)) && (true)) (corbelref3_Encode.l2 k n x13 x14 x15 x16 x17 x18 (wrapA .i64 (x19 + (1 : Int))) q30.2) none)
      (some ((), h20))) := rfl
noncomputable def corbelref3_Encode.l1 (k : Nat) (n : Nat) : Sl → Sl → Int → Sl → Sl → Int → H → Option ((Unit) × H) :=
  Nat.rec (motive := fun _ => Sl → Sl → Int → Sl → Sl → Int → H → Option ((Unit) × H)) (fun _ _ _ _ _ _ _ => none) (fun _ ih x6 x7 x8 x9 x10 x11 h12 => cond (decide (x11 < (32 : Int)))
      ((corbelref3_Encode.l2 k k x6 x7 x8 x9 x10 x11 (0 : Int) h12).bind fun w31 =>
    ih x6 x7 x8 x9 x10 (wrapA .i64 (x11 + (1 : Int))) w31.2)
      (some ((), h12))) n
theorem corbelref3_Encode.l1_zero (k : Nat) (x6 : Sl) (x7 : Sl) (x8 : Int) (x9 : Sl) (x10 : Sl) (x11 : Int) (h12 : H) : corbelref3_Encode.l1 k 0 x6 x7 x8 x9 x10 x11 h12 = none := rfl
theorem corbelref3_Encode.l1_succ (k n : Nat) (x6 : Sl) (x7 : Sl) (x8 : Int) (x9 : Sl) (x10 : Sl) (x11 : Int) (h12 : H) : corbelref3_Encode.l1 k (n + 1) x6 x7 x8 x9 x10 x11 h12 = (cond (decide (x11 < (32 : Int)))
      ((corbelref3_Encode.l2 k k x6 x7 x8 x9 x10 x11 (0 : Int) h12).bind fun w31 =>
    corbelref3_Encode.l1 k n x6 x7 x8 x9 x10 (wrapA .i64 (x11 + (1 : Int))) w31.2)
      (some ((), h12))) := rfl
noncomputable def corbelref3_Encode.l0 (k : Nat) (n : Nat) : Sl → Sl → Int → H → Option ((Sl) × H) :=
  Nat.rec (motive := fun _ => Sl → Sl → Int → H → Option ((Sl) × H)) (fun _ _ _ _ => none) (fun _ ih x1 x2 x3 h4 => cond (decide (x3 < (6 : Int)))
      ((corbelref3_Row.f k x3 h4).bind fun q5 =>
    (corbelref3_Encode.l1 k k x1 x2 x3 q5.1 (⟨(some ⟨q5.2.next, 0, none⟩), 32, 32⟩ : Sl) (0 : Int) (newZ q5.2 5 1 [(Value.int .u8 (0 : Int))] 32)).bind fun w32 =>
    (asS2 (apv 40 1 24 (Value.slice x2.a x2.n x2.c) (Value.slice (some ⟨w32.2.next, 0, none⟩) 1 1) (newR w32.2 40 1 [(Value.slice (some ⟨q5.2.next, 0, none⟩) 32 32)]))).bind fun q33 =>
    ih x1 q33.1 (wrapA .i64 (x3 + (1 : Int))) q33.2)
      (some (x2, h4))) n
theorem corbelref3_Encode.l0_zero (k : Nat) (x1 : Sl) (x2 : Sl) (x3 : Int) (h4 : H) : corbelref3_Encode.l0 k 0 x1 x2 x3 h4 = none := rfl
theorem corbelref3_Encode.l0_succ (k n : Nat) (x1 : Sl) (x2 : Sl) (x3 : Int) (h4 : H) : corbelref3_Encode.l0 k (n + 1) x1 x2 x3 h4 = (cond (decide (x3 < (6 : Int)))
      ((corbelref3_Row.f k x3 h4).bind fun q5 =>
    (corbelref3_Encode.l1 k k x1 x2 x3 q5.1 (⟨(some ⟨q5.2.next, 0, none⟩), 32, 32⟩ : Sl) (0 : Int) (newZ q5.2 5 1 [(Value.int .u8 (0 : Int))] 32)).bind fun w32 =>
    (asS2 (apv 40 1 24 (Value.slice x2.a x2.n x2.c) (Value.slice (some ⟨w32.2.next, 0, none⟩) 1 1) (newR w32.2 40 1 [(Value.slice (some ⟨q5.2.next, 0, none⟩) 32 32)]))).bind fun q33 =>
    corbelref3_Encode.l0 k n x1 q33.1 (wrapA .i64 (x3 + (1 : Int))) q33.2)
      (some (x2, h4))) := rfl
noncomputable def corbelref3_Encode.f (k : Nat) (a0 : Sl) (h : H) : Option ((Sl) × H) :=
  (corbelref3_Encode.l0 k k a0 (⟨none, 0, 0⟩ : Sl) (0 : Int) h).bind fun w34 =>
    some (w34.1, w34.2)
noncomputable def corbelref3_Encode.T (k : Nat) : Tbl := tblOf [⟨65, anyArgs, wr [(.int .i64)] [.sl] (fun a h => corbelref3_Row.f k a h)⟩,
  ⟨26, anyArgs, wr [(.int .u8), (.int .u8)] [(.int .u8)] (fun a h => corbelref3_Mul.f k (a.1) (a.2) h)⟩]
noncomputable def corbelref3_Encode.an (k : Nat) (p : Nat) : Option Ann := cond (Nat.beq p 58) (some (.pass [] (lrun [(0, .sl), (3, .sl), (4, (.int .i64))] none [(3, .sl)] 0 (fun a h => corbelref3_Encode.l0 k k (a.1) (a.2.1) (a.2.2) h))))
  (cond (Nat.beq p 29850) (some (.pass [0, 3, 4, 6] (lrun [(0, .sl), (3, .sl), (4, (.int .i64)), (5, .sl), (6, .sl), (7, (.int .i64))] none [] 2 (fun a h => corbelref3_Encode.l1 k k (a.1) (a.2.1) (a.2.2.1) (a.2.2.2.1) (a.2.2.2.2.1) (a.2.2.2.2.2) h))))
  (cond (Nat.beq p 1910418) (some (.pass [0, 3, 4, 5, 6, 7] (lrun [(0, .sl), (3, .sl), (4, (.int .i64)), (5, .sl), (6, .sl), (7, (.int .i64)), (8, (.int .i64))] none [] 4 (fun a h => corbelref3_Encode.l2 k k (a.1) (a.2.1) (a.2.2.1) (a.2.2.2.1) (a.2.2.2.2.1) (a.2.2.2.2.2.1) (a.2.2.2.2.2.2) h))))
  (none)))
noncomputable def corbelref3_Encode.body : Code := (Try.f47.body).getD .skip
noncomputable def corbelref3_Encode.c58 : Code := cat corbelref3_Encode.body [1, 1, 0, 1, 0, 0]
noncomputable def corbelref3_Encode.c29850 : Code := cat corbelref3_Encode.body [1, 1, 0, 1, 0, 0, 1, 0, 0, 1, 1, 0, 1, 0, 0]
noncomputable def corbelref3_Encode.c1910418 : Code := cat corbelref3_Encode.body [1, 1, 0, 1, 0, 0, 1, 0, 0, 1, 1, 0, 1, 0, 0, 1, 0, 0, 1, 0, 0]
set_option maxRecDepth 100000 in
theorem corbelref3_Encode.TS {C : FuncId → Bool} {X : CallF} (hX : XOk C X) (k : Nat) : TblS Try.prog C X (corbelref3_Encode.T k) := by
  refine tblOf_sound ?_
  intro e he
  rcases List.mem_cons.1 he with rfl | he
  · exact wr_told (corbelref3_Row.told hX k)
  rcases List.mem_cons.1 he with rfl | he
  · exact wr_told (corbelref3_Mul.told hX k)
  exact absurd he List.not_mem_nil
set_option maxRecDepth 100000 in
theorem corbelref3_Encode.l2_pass {C : FuncId → Bool} {X : CallF} (hX : XOk C X) (k n : Nat) : PassS Try.prog C X 49 (.loop corbelref3_Encode.c1910418) (lrun [(0, .sl), (3, .sl), (4, (.int .i64)), (5, .sl), (6, .sl), (7, (.int .i64)), (8, (.int .i64))] none [] 4 (fun a h => corbelref3_Encode.l2 k n (a.1) (a.2.1) (a.2.2.1) (a.2.2.2.1) (a.2.2.2.2.1) (a.2.2.2.2.2.1) (a.2.2.2.2.2.2) h)) :=
  loop_pass (ins := [(0, .sl), (3, .sl), (4, (.int .i64)), (5, .sl), (6, .sl), (7, (.int .i64)), (8, (.int .i64))]) (rets := none) (outs := []) (id := 4) (tbl := corbelref3_Encode.T k) (an := corbelref3_Encode.an k) (pb := 3820836) (corbelref3_Encode.TS hX k) (fun n => (fun a h => corbelref3_Encode.l2 k n (a.1) (a.2.1) (a.2.2.1) (a.2.2.2.1) (a.2.2.2.2.1) (a.2.2.2.2.2.1) (a.2.2.2.2.2.2) h)) (fun a h => rfl) (fun n a h => by kernel_rfl)
    (by
      have e : need (corbelref3_Encode.an k) corbelref3_Encode.c1910418 3820836 = [] := by kernel_rfl
      rw [e]; intro q hq; cases hq) n
set_option maxRecDepth 100000 in
theorem corbelref3_Encode.l1_pass {C : FuncId → Bool} {X : CallF} (hX : XOk C X) (k n : Nat) : PassS Try.prog C X 49 (.loop corbelref3_Encode.c29850) (lrun [(0, .sl), (3, .sl), (4, (.int .i64)), (5, .sl), (6, .sl), (7, (.int .i64))] none [] 2 (fun a h => corbelref3_Encode.l1 k n (a.1) (a.2.1) (a.2.2.1) (a.2.2.2.1) (a.2.2.2.2.1) (a.2.2.2.2.2) h)) :=
  loop_pass (ins := [(0, .sl), (3, .sl), (4, (.int .i64)), (5, .sl), (6, .sl), (7, (.int .i64))]) (rets := none) (outs := []) (id := 2) (tbl := corbelref3_Encode.T k) (an := corbelref3_Encode.an k) (pb := 59700) (corbelref3_Encode.TS hX k) (fun n => (fun a h => corbelref3_Encode.l1 k n (a.1) (a.2.1) (a.2.2.1) (a.2.2.2.1) (a.2.2.2.2.1) (a.2.2.2.2.2) h)) (fun a h => rfl) (fun n a h => by kernel_rfl)
    (by
      have e : need (corbelref3_Encode.an k) corbelref3_Encode.c29850 59700 = [(Code.loop corbelref3_Encode.c1910418, lrun [(0, .sl), (3, .sl), (4, (.int .i64)), (5, .sl), (6, .sl), (7, (.int .i64)), (8, (.int .i64))] none [] 4 (fun a h => corbelref3_Encode.l2 k k (a.1) (a.2.1) (a.2.2.1) (a.2.2.2.1) (a.2.2.2.2.1) (a.2.2.2.2.2.1) (a.2.2.2.2.2.2) h))] := by kernel_rfl
      rw [e]; intro q hq
      rcases List.mem_cons.1 hq with rfl | hq
      · exact corbelref3_Encode.l2_pass hX k k
      cases hq) n
set_option maxRecDepth 100000 in
theorem corbelref3_Encode.l0_pass {C : FuncId → Bool} {X : CallF} (hX : XOk C X) (k n : Nat) : PassS Try.prog C X 49 (.loop corbelref3_Encode.c58) (lrun [(0, .sl), (3, .sl), (4, (.int .i64))] none [(3, .sl)] 0 (fun a h => corbelref3_Encode.l0 k n (a.1) (a.2.1) (a.2.2) h)) :=
  loop_pass (ins := [(0, .sl), (3, .sl), (4, (.int .i64))]) (rets := none) (outs := [(3, .sl)]) (id := 0) (tbl := corbelref3_Encode.T k) (an := corbelref3_Encode.an k) (pb := 116) (corbelref3_Encode.TS hX k) (fun n => (fun a h => corbelref3_Encode.l0 k n (a.1) (a.2.1) (a.2.2) h)) (fun a h => rfl) (fun n a h => by kernel_rfl)
    (by
      have e : need (corbelref3_Encode.an k) corbelref3_Encode.c58 116 = [(Code.loop corbelref3_Encode.c29850, lrun [(0, .sl), (3, .sl), (4, (.int .i64)), (5, .sl), (6, .sl), (7, (.int .i64))] none [] 2 (fun a h => corbelref3_Encode.l1 k k (a.1) (a.2.1) (a.2.2.1) (a.2.2.2.1) (a.2.2.2.2.1) (a.2.2.2.2.2) h))] := by kernel_rfl
      rw [e]; intro q hq
      rcases List.mem_cons.1 hq with rfl | hq
      · exact corbelref3_Encode.l1_pass hX k k
      cases hq) n
set_option maxRecDepth 100000 in
theorem corbelref3_Encode.eq (k : Nat) (a : RT [.sl]) (h : H) : (fun a h => corbelref3_Encode.f k a h) a h = kfun Try.prog (corbelref3_Encode.T k) (corbelref3_Encode.an k) (RT [.sl] × H) Try.f47 (encL [.sl] a) h (fun vs h' => (decL [.sl] vs).bind fun x => some (x, h')) := by kernel_rfl
set_option maxRecDepth 100000 in
theorem corbelref3_Encode.told {C : FuncId → Bool} {X : CallF} (hX : XOk C X) (k : Nat) : Den.Told Try.prog C X 47 [.sl] [.sl] (fun a h => corbelref3_Encode.f k a h) :=
  told_of fun a h q e => fn_of (c := corbelref3_Encode.body) (corbelref3_Encode.TS hX k) Try.func47 (by kernel_rfl) (hX.no 47 _ h (by decide))
    (by
      have e : need (corbelref3_Encode.an k) corbelref3_Encode.body 1 = [(Code.loop corbelref3_Encode.c58, lrun [(0, .sl), (3, .sl), (4, (.int .i64))] none [(3, .sl)] 0 (fun a h => corbelref3_Encode.l0 k k (a.1) (a.2.1) (a.2.2) h))] := by kernel_rfl
      rw [e]; intro q hq
      rcases List.mem_cons.1 hq with rfl | hq
      · exact corbelref3_Encode.l0_pass hX k k
      cases hq)
    ((corbelref3_Encode.eq k a h).symm.trans e)
/-! ### corbel/corbellaw5.same -/
noncomputable def corbellaw5_same.l0 (k : Nat) (n : Nat) : Sl → Sl → Int → Int → H → Option (((Bool) ⊕ (Unit)) × H) :=
  Nat.rec (motive := fun _ => Sl → Sl → Int → Int → H → Option (((Bool) ⊕ (Unit)) × H)) (fun _ _ _ _ _ => none) (fun _ ih x1 x2 x3 x4 h5 => cond (decide (x4 < x3))
      ((asP (ixs 1 x1.a x1.n x4)).bind fun p6 =>
    (asS (ldc h5 p6)).bind fun s7 =>
    (asT (txt h5 (Value.slice s7.a s7.n s7.c))).bind fun s8 =>
    (asP (ixs 1 x2.a x2.n x4)).bind fun p9 =>
    (asS (ldc h5 p9)).bind fun s10 =>
    (asT (txt h5 (Value.slice s10.a s10.n s10.c))).bind fun s11 =>
    cond (!(s8.toList == s11.toList))
      (some (Sum.inl false, h5))
      (ih x1 x2 x3 (wrapA .i64 (x4 + (1 : Int))) h5))
      (some (Sum.inr (), h5))) n
theorem corbellaw5_same.l0_zero (k : Nat) (x1 : Sl) (x2 : Sl) (x3 : Int) (x4 : Int) (h5 : H) : corbellaw5_same.l0 k 0 x1 x2 x3 x4 h5 = none := rfl
theorem corbellaw5_same.l0_succ (k n : Nat) (x1 : Sl) (x2 : Sl) (x3 : Int) (x4 : Int) (h5 : H) : corbellaw5_same.l0 k (n + 1) x1 x2 x3 x4 h5 = (cond (decide (x4 < x3))
      ((asP (ixs 1 x1.a x1.n x4)).bind fun p6 =>
    (asS (ldc h5 p6)).bind fun s7 =>
    (asT (txt h5 (Value.slice s7.a s7.n s7.c))).bind fun s8 =>
    (asP (ixs 1 x2.a x2.n x4)).bind fun p9 =>
    (asS (ldc h5 p9)).bind fun s10 =>
    (asT (txt h5 (Value.slice s10.a s10.n s10.c))).bind fun s11 =>
    cond (!(s8.toList == s11.toList))
      (some (Sum.inl false, h5))
      (corbellaw5_same.l0 k n x1 x2 x3 (wrapA .i64 (x4 + (1 : Int))) h5))
      (some (Sum.inr (), h5))) := rfl
noncomputable def corbellaw5_same.f (k : Nat) (a0 : Sl) (a1 : Sl) (h : H) : Option ((Bool) × H) :=
  cond ((Int.ofNat a0.n) != (Int.ofNat a1.n))
      (some (false, h))
      ((corbellaw5_same.l0 k k a0 a1 (Int.ofNat a0.n) (0 : Int) h).bind fun w12 =>
    match w12.1 with
    | .inl r13 => some (r13, w12.2)
    | .inr o14 => some (true, w12.2))
noncomputable def corbellaw5_same.T (k : Nat) : Tbl := tblOf []
noncomputable def corbellaw5_same.an (k : Nat) (p : Nat) : Option Ann := cond (Nat.beq p 58) (some (.pass [] (lrun [(0, .sl), (1, .sl), (12, (.int .i64)), (13, (.int .i64))] (some [(4, .bool)]) [] 0 (fun a h => corbellaw5_same.l0 k k (a.1) (a.2.1) (a.2.2.1) (a.2.2.2) h))))
  (none)
noncomputable def corbellaw5_same.body : Code := (Try.f48.body).getD .skip
noncomputable def corbellaw5_same.c58 : Code := cat corbellaw5_same.body [1, 1, 0, 1, 0, 0]
set_option maxRecDepth 100000 in
theorem corbellaw5_same.TS {C : FuncId → Bool} {X : CallF} (hX : XOk C X) (k : Nat) : TblS Try.prog C X (corbellaw5_same.T k) := by
  refine tblOf_sound ?_
  intro e he
  exact absurd he List.not_mem_nil
set_option maxRecDepth 100000 in
theorem corbellaw5_same.l0_pass {C : FuncId → Bool} {X : CallF} (hX : XOk C X) (k n : Nat) : PassS Try.prog C X 28 (.loop corbellaw5_same.c58) (lrun [(0, .sl), (1, .sl), (12, (.int .i64)), (13, (.int .i64))] (some [(4, .bool)]) [] 0 (fun a h => corbellaw5_same.l0 k n (a.1) (a.2.1) (a.2.2.1) (a.2.2.2) h)) :=
  loop_pass (ins := [(0, .sl), (1, .sl), (12, (.int .i64)), (13, (.int .i64))]) (rets := (some [(4, .bool)])) (outs := []) (id := 0) (tbl := corbellaw5_same.T k) (an := corbellaw5_same.an k) (pb := 116) (corbellaw5_same.TS hX k) (fun n => (fun a h => corbellaw5_same.l0 k n (a.1) (a.2.1) (a.2.2.1) (a.2.2.2) h)) (fun a h => rfl) (fun n a h => by kernel_rfl)
    (by
      have e : need (corbellaw5_same.an k) corbellaw5_same.c58 116 = [] := by kernel_rfl
      rw [e]; intro q hq; cases hq) n
set_option maxRecDepth 100000 in
theorem corbellaw5_same.eq (k : Nat) (a : RT [.sl, .sl]) (h : H) : (fun a h => corbellaw5_same.f k (a.1) (a.2) h) a h = kfun Try.prog (corbellaw5_same.T k) (corbellaw5_same.an k) (RT [.bool] × H) Try.f48 (encL [.sl, .sl] a) h (fun vs h' => (decL [.bool] vs).bind fun x => some (x, h')) := by kernel_rfl
set_option maxRecDepth 100000 in
theorem corbellaw5_same.told {C : FuncId → Bool} {X : CallF} (hX : XOk C X) (k : Nat) : Den.Told Try.prog C X 48 [.sl, .sl] [.bool] (fun a h => corbellaw5_same.f k (a.1) (a.2) h) :=
  told_of fun a h q e => fn_of (c := corbellaw5_same.body) (corbellaw5_same.TS hX k) Try.func48 (by kernel_rfl) (hX.no 48 _ h (by decide))
    (by
      have e : need (corbellaw5_same.an k) corbellaw5_same.body 1 = [(Code.loop corbellaw5_same.c58, lrun [(0, .sl), (1, .sl), (12, (.int .i64)), (13, (.int .i64))] (some [(4, .bool)]) [] 0 (fun a h => corbellaw5_same.l0 k k (a.1) (a.2.1) (a.2.2.1) (a.2.2.2) h))] := by kernel_rfl
      rw [e]; intro q hq
      rcases List.mem_cons.1 hq with rfl | hq
      · exact corbellaw5_same.l0_pass hX k k
      cases hq)
    ((corbellaw5_same.eq k a h).symm.trans e)
/-! ### corbel/corbelref3.Decode -/
noncomputable def corbelref3_Decode.l1 (k : Nat) (n : Nat) : Sl → Sl → Int → H → Option ((Sl) × H) :=
  Nat.rec (motive := fun _ => Sl → Sl → Int → H → Option ((Sl) × H)) (fun _ _ _ _ => none) (fun _ ih x21 x22 x23 h24 => cond (decide (x23 < (Int.ofNat x21.n)))
      ((asP (ixs 1 x21.a x21.n x23)).bind fun p25 =>
    (asS (ldc h24 p25)).bind fun s26 =>
    (asS2 (apv 5 1 1 (Value.slice x22.a x22.n x22.c) (Value.slice s26.a s26.n s26.c) h24)).bind fun q27 =>
    ih x21 q27.1 (wrapA .i64 (x23 + (1 : Int))) q27.2)
      (some (x22, h24))) n
theorem corbelref3_Decode.l1_zero (k : Nat) (x21 : Sl) (x22 : Sl) (x23 : Int) (h24 : H) : corbelref3_Decode.l1 k 0 x21 x22 x23 h24 = none := rfl
theorem corbelref3_Decode.l1_succ (k n : Nat) (x21 : Sl) (x22 : Sl) (x23 : Int) (h24 : H) : corbelref3_Decode.l1 k (n + 1) x21 x22 x23 h24 = (cond (decide (x23 < (Int.ofNat x21.n)))
      ((asP (ixs 1 x21.a x21.n x23)).bind fun p25 =>
    (asS (ldc h24 p25)).bind fun s26 =>
    (asS2 (apv 5 1 1 (Value.slice x22.a x22.n x22.c) (Value.slice s26.a s26.n s26.c) h24)).bind fun q27 =>
    corbelref3_Decode.l1 k n x21 q27.1 (wrapA .i64 (x23 + (1 : Int))) q27.2)
      (some (x22, h24))) := rfl
noncomputable def corbelref3_Decode.l0 (k : Nat) (n : Nat) : Sl → Sl → Sl → Int → H → Option (((Sl × Bool) ⊕ (Sl × Sl)) × H) :=
  Nat.rec (motive := fun _ => Sl → Sl → Sl → Int → H → Option (((Sl × Bool) ⊕ (Sl × Sl)) × H)) (fun _ _ _ _ _ => none) (fun _ ih x1 x2 x3 x4 h5 => cond (decide (x4 < (6 : Int)))
      ((asP (ixs 1 x1.a x1.n x4)).bind fun p6 =>
    (asS (ldc h5 p6)).bind fun s7 =>
    (cond ((Int.ofNat s7.n) != (0 : Int)) (some ((Int.ofNat s7.n) != (32 : Int), h5))
      (some (false, h5))).bind fun g8 =>
    cond g8.1
      (some (Sum.inl ((⟨none, 0, 0⟩ : Sl), false), g8.2))
      ((cond (decide ((Int.ofNat s7.n) > (0 : Int))) (some (decide ((Int.ofNat x2.n) < (4 : Int)), g8.2))
      (some (false, g8.2))).bind fun g9 =>
    (cond g9.1
      ((corbelref3_Row.f k x4 g9.2).bind fun q10 =>
    (asS2 (apv 40 1 24 (Value.slice x2.a x2.n x2.c) (Value.slice (some ⟨q10.2.next, 0, none⟩) 1 1) (newR q10.2 40 1 [(Value.slice q10.1.a q10.1.n q10.1.c)]))).bind fun q11 =>
    (asP (ixs 1 x1.a x1.n x4)).bind fun p12 =>
    (asS (ldc q11.2 p12)).bind fun s13 =>
    (asS2 (apv 40 1 24 (Value.slice x3.a x3.n x3.c) (Value.slice (some ⟨q11.2.next, 0, none⟩) 1 1) (newR q11.2 40 1 [(Value.slice s13.a s13.n s13.c)]))).bind fun q14 =>
    some ((q11.1, q14.1), q14.2))
      (some ((x2, x3), g9.2)) : Option ((Sl × Sl) × H)).bind fun j15 =>
    ih x1 j15.1.1 j15.1.2 (wrapA .i64 (x4 + (1 : Int))) j15.2))
      (some (Sum.inr (x2, x3), h5))) n
theorem corbelref3_Decode.l0_zero (k : Nat) (x1 : Sl) (x2 : Sl) (x3 : Sl) (x4 : Int) (h5 : H) : corbelref3_Decode.l0 k 0 x1 x2 x3 x4 h5 = none := rfl
theorem corbelref3_Decode.l0_succ (k n : Nat) (x1 : Sl) (x2 : Sl) (x3 : Sl) (x4 : Int) (h5 : H) : corbelref3_Decode.l0 k (n + 1) x1 x2 x3 x4 h5 = (cond (decide (x4 < (6 : Int)))
      ((asP (ixs 1 x1.a x1.n x4)).bind fun p6 =>
    (asS (ldc h5 p6)).bind fun s7 =>
    (cond ((Int.ofNat s7.n) != (0 : Int)) (some ((Int.ofNat s7.n) != (32 : Int), h5))
      (some (false, h5))).bind fun g8 =>
    cond g8.1
      (some (Sum.inl ((⟨none, 0, 0⟩ : Sl), false), g8.2))
      ((cond (decide ((Int.ofNat s7.n) > (0 : Int))) (some (decide ((Int.ofNat x2.n) < (4 : Int)), g8.2))
      (some (false, g8.2))).bind fun g9 =>
    (cond g9.1
      ((corbelref3_Row.f k x4 g9.2).bind fun q10 =>
    (asS2 (apv 40 1 24 (Value.slice x2.a x2.n x2.c) (Value.slice (some ⟨q10.2.next, 0, none⟩) 1 1) (newR q10.2 40 1 [(Value.slice q10.1.a q10.1.n q10.1.c)]))).bind fun q11 =>
    (asP (ixs 1 x1.a x1.n x4)).bind fun p12 =>
    (asS (ldc q11.2 p12)).bind fun s13 =>
    (asS2 (apv 40 1 24 (Value.slice x3.a x3.n x3.c) (Value.slice (some ⟨q11.2.next, 0, none⟩) 1 1) (newR q11.2 40 1 [(Value.slice s13.a s13.n s13.c)]))).bind fun q14 =>
    some ((q11.1, q14.1), q14.2))
      (some ((x2, x3), g9.2)) : Option ((Sl × Sl) × H)).bind fun j15 =>
    corbelref3_Decode.l0 k n x1 j15.1.1 j15.1.2 (wrapA .i64 (x4 + (1 : Int))) j15.2))
      (some (Sum.inr (x2, x3), h5))) := rfl
noncomputable def corbelref3_Decode.f (k : Nat) (a0 : Sl) (h : H) : Option ((Sl × Bool) × H) :=
  cond ((Int.ofNat a0.n) != (6 : Int))
      (some (((⟨none, 0, 0⟩ : Sl), false), h))
      ((corbelref3_Decode.l0 k k a0 (⟨none, 0, 0⟩ : Sl) (⟨none, 0, 0⟩ : Sl) (0 : Int) h).bind fun w16 =>
    match w16.1 with
    | .inl r17 => some ((r17.1, r17.2), w16.2)
    | .inr o18 => cond (decide ((Int.ofNat o18.1.n) < (4 : Int)))
      (some (((⟨none, 0, 0⟩ : Sl), false), w16.2))
      ((corbelref3_Inverse.f k o18.1 w16.2).bind fun q19 =>
    cond (!q19.1.2)
      (some (((⟨none, 0, 0⟩ : Sl), false), q19.2))
      ((corbelref3_MulMatrix.f k q19.1.1 o18.2 q19.2).bind fun q20 =>
    (corbelref3_Decode.l1 k k q20.1 (⟨none, 0, 0⟩ : Sl) (0 : Int) q20.2).bind fun w28 =>
    some ((w28.1, true), w28.2))))
noncomputable def corbelref3_Decode.T (k : Nat) : Tbl := tblOf [⟨65, anyArgs, wr [(.int .i64)] [.sl] (fun a h => corbelref3_Row.f k a h)⟩,
  ⟨38, anyArgs, wr [.sl] [.sl, .bool] (fun a h => corbelref3_Inverse.f k a h)⟩,
  ⟨40, anyArgs, wr [.sl, .sl] [.sl] (fun a h => corbelref3_MulMatrix.f k (a.1) (a.2) h)⟩]
noncomputable def corbelref3_Decode.an (k : Nat) (p : Nat) : Option Ann := cond (Nat.beq p 16378) (some (.pass [] (lrun [(10, .sl), (11, .sl), (12, (.int .i64))] none [(11, .sl)] 2 (fun a h => corbelref3_Decode.l1 k k (a.1) (a.2.1) (a.2.2) h))))
  (cond (Nat.beq p 250) (some (.pass [] (lrun [(0, .sl), (4, .sl), (5, .sl), (6, (.int .i64))] (some [(2, .sl), (3, .bool)]) [(4, .sl), (5, .sl)] 0 (fun a h => corbelref3_Decode.l0 k k (a.1) (a.2.1) (a.2.2.1) (a.2.2.2) h))))
  (cond (Nat.beq p 32039) (some (.join [0, 6] none [(4, .sl), (5, .sl)]))
  (none)))
noncomputable def corbelref3_Decode.body : Code := (Try.f50.body).getD .skip
noncomputable def corbelref3_Decode.c250 : Code := cat corbelref3_Decode.body [1, 1, 1, 1, 0, 1, 0, 0]
noncomputable def corbelref3_Decode.c16378 : Code := cat corbelref3_Decode.body [1, 1, 1, 1, 1, 1, 1, 1, 1, 1, 0, 1, 0, 0]
set_option maxRecDepth 100000 in
theorem corbelref3_Decode.TS {C : FuncId → Bool} {X : CallF} (hX : XOk C X) (k : Nat) : TblS Try.prog C X (corbelref3_Decode.T k) := by
  refine tblOf_sound ?_
  intro e he
  rcases List.mem_cons.1 he with rfl | he
  · exact wr_told (corbelref3_Row.told hX k)
  rcases List.mem_cons.1 he with rfl | he
  · exact wr_told (corbelref3_Inverse.told hX k)
  rcases List.mem_cons.1 he with rfl | he
  · exact wr_told (corbelref3_MulMatrix.told hX k)
  exact absurd he List.not_mem_nil
set_option maxRecDepth 100000 in
theorem corbelref3_Decode.l1_pass {C : FuncId → Bool} {X : CallF} (hX : XOk C X) (k n : Nat) : PassS Try.prog C X 76 (.loop corbelref3_Decode.c16378) (lrun [(10, .sl), (11, .sl), (12, (.int .i64))] none [(11, .sl)] 2 (fun a h => corbelref3_Decode.l1 k n (a.1) (a.2.1) (a.2.2) h)) :=
  loop_pass (ins := [(10, .sl), (11, .sl), (12, (.int .i64))]) (rets := none) (outs := [(11, .sl)]) (id := 2) (tbl := corbelref3_Decode.T k) (an := corbelref3_Decode.an k) (pb := 32756) (corbelref3_Decode.TS hX k) (fun n => (fun a h => corbelref3_Decode.l1 k n (a.1) (a.2.1) (a.2.2) h)) (fun a h => rfl) (fun n a h => by kernel_rfl)
    (by
      have e : need (corbelref3_Decode.an k) corbelref3_Decode.c16378 32756 = [] := by kernel_rfl
      rw [e]; intro q hq; cases hq) n
set_option maxRecDepth 100000 in
theorem corbelref3_Decode.l0_pass {C : FuncId → Bool} {X : CallF} (hX : XOk C X) (k n : Nat) : PassS Try.prog C X 76 (.loop corbelref3_Decode.c250) (lrun [(0, .sl), (4, .sl), (5, .sl), (6, (.int .i64))] (some [(2, .sl), (3, .bool)]) [(4, .sl), (5, .sl)] 0 (fun a h => corbelref3_Decode.l0 k n (a.1) (a.2.1) (a.2.2.1) (a.2.2.2) h)) :=
  loop_pass (ins := [(0, .sl), (4, .sl), (5, .sl), (6, (.int .i64))]) (rets := (some [(2, .sl), (3, .bool)])) (outs := [(4, .sl), (5, .sl)]) (id := 0) (tbl := corbelref3_Decode.T k) (an := corbelref3_Decode.an k) (pb := 500) (corbelref3_Decode.TS hX k) (fun n => (fun a h => corbelref3_Decode.l0 k n (a.1) (a.2.1) (a.2.2.1) (a.2.2.2) h)) (fun a h => rfl) (fun n a h => by kernel_rfl)
    (by
      have e : need (corbelref3_Decode.an k) corbelref3_Decode.c250 500 = [] := by kernel_rfl
      rw [e]; intro q hq; cases hq) n
set_option maxRecDepth 100000 in
theorem corbelref3_Decode.eq (k : Nat) (a : RT [.sl]) (h : H) : (fun a h => corbelref3_Decode.f k a h) a h = kfun Try.prog (corbelref3_Decode.T k) (corbelref3_Decode.an k) (RT [.sl, .bool] × H) Try.f50 (encL [.sl] a) h (fun vs h' => (decL [.sl, .bool] vs).bind fun x => some (x, h')) := by kernel_rfl
set_option maxRecDepth 100000 in
theorem corbelref3_Decode.told {C : FuncId → Bool} {X : CallF} (hX : XOk C X) (k : Nat) : Den.Told Try.prog C X 50 [.sl] [.sl, .bool] (fun a h => corbelref3_Decode.f k a h) :=
  told_of fun a h q e => fn_of (c := corbelref3_Decode.body) (corbelref3_Decode.TS hX k) Try.func50 (by kernel_rfl) (hX.no 50 _ h (by decide))
    (by
      have e : need (corbelref3_Decode.an k) corbelref3_Decode.body 1 = [(Code.loop corbelref3_Decode.c250, lrun [(0, .sl), (4, .sl), (5, .sl), (6, (.int .i64))] (some [(2, .sl), (3, .bool)]) [(4, .sl), (5, .sl)] 0 (fun a h => corbelref3_Decode.l0 k k (a.1) (a.2.1) (a.2.2.1) (a.2.2.2) h)), (Code.loop corbelref3_Decode.c16378, lrun [(10, .sl), (11, .sl), (12, (.int .i64))] none [(11, .sl)] 2 (fun a h => corbelref3_Decode.l1 k k (a.1) (a.2.1) (a.2.2) h))] := by kernel_rfl
      rw [e]; intro q hq
      rcases List.mem_cons.1 hq with rfl | hq
      · exact corbelref3_Decode.l0_pass hX k k
      rcases List.mem_cons.1 hq with rfl | hq
      · exact corbelref3_Decode.l1_pass hX k k
      cases hq)
    ((corbelref3_Decode.eq k a h).symm.trans e)
/-! ### corbel/corbellaw5.CoderTells -/
noncomputable def corbellaw5_CoderTells.l1 (k : Nat) (n : Nat) : (Option Addr) → Sl → Sl → Bool → Sl → Bool → Int → Bool → Int → H → Option ((Bool) × H) :=
  Nat.rec (motive := fun _ => (Option Addr) → Sl → Sl → Bool → Sl → Bool → Int → Bool → Int → H → Option ((Bool) × H)) (fun _ _ _ _ _ _ _ _ _ _ => none) (fun _ ih x39 x40 x41 x42 x43 x44 x45 x46 x47 h48 => cond (decide (x47 < x45))
      ((cond x46 ((asP (ixs 1 x40.a x40.n x47)).bind fun p49 =>
    (asS (ldc h48 p49)).bind fun s50 =>
    some ((Int.ofNat s50.n) == (32 : Int), h48))
      (some (false, h48))).bind fun g51 =>
    ih x39 x40 x41 x42 x43 x44 x45 g51.1 (wrapA .i64 (x47 + (1 : Int))) g51.2)
      (some (x46, h48))) n
theorem corbellaw5_CoderTells.l1_zero (k : Nat) (x39 : Option Addr) (x40 : Sl) (x41 : Sl) (x42 : Bool) (x43 : Sl) (x44 : Bool) (x45 : Int) (x46 : Bool) (x47 : Int) (h48 : H) : corbellaw5_CoderTells.l1 k 0 x39 x40 x41 x42 x43 x44 x45 x46 x47 h48 = none := rfl
theorem corbellaw5_CoderTells.l1_succ (k n : Nat) (x39 : Option Addr) (x40 : Sl) (x41 : Sl) (x42 : Bool) (x43 : Sl) (x44 : Bool) (x45 : Int) (x46 : Bool) (x47 : Int) (h48 : H) : corbellaw5_CoderTells.l1 k (n + 1) x39 x40 x41 x42 x43 x44 x45 x46 x47 h48 = (cond (decide (x47 < x45))
      ((cond x46 ((asP (ixs 1 x40.a x40.n x47)).bind fun p49 =>
    (asS (ldc h48 p49)).bind fun s50 =>
    some ((Int.ofNat s50.n) == (32 : Int), h48))
      (some (false, h48))).bind fun g51 =>
    corbellaw5_CoderTells.l1 k n x39 x40 x41 x42 x43 x44 x45 g51.1 (wrapA .i64 (x47 + (1 : Int))) g51.2)
      (some (x46, h48))) := rfl
noncomputable def corbellaw5_CoderTells.l0 (k : Nat) (n : Nat) : Int → Sl → Int → Int → Int → (Option Addr) → Sl → Int → Sl → Int → H → Option ((Sl) × H) :=
  Nat.rec (motive := fun _ => Int → Sl → Int → Int → Int → (Option Addr) → Sl → Int → Sl → Int → H → Option ((Sl) × H)) (fun _ _ _ _ _ _ _ _ _ _ _ => none) (fun _ ih x9 x10 x11 x12 x13 x14 x15 x16 x17 x18 h19 => cond (decide (x18 < x16))
      ((asP (ixs 1 x15.a x15.n x18)).bind fun p20 =>
    (asS (ldc h19 p20)).bind fun s21 =>
    (cond (decide (x18 < (Int.ofNat x10.n))) ((asP (ixs 1 x10.a x10.n x18)).bind fun p22 =>
    (asB (ldc h19 p22)).bind fun b23 =>
    some (b23, h19))
      (some (false, h19))).bind fun g24 =>
    (cond g24.1
      (some ((⟨none, 0, 0⟩ : Sl), g24.2))
      (some (s21, g24.2)) : Option ((Sl) × H)).bind fun j25 =>
    (corbelhand_Pick.f k x11 (9 : Int) j25.2).bind fun q26 =>
    (cond (x18 == q26.1)
      ((corbelhand_Bytes.f k x9 (32 : Int) q26.2).bind fun q27 =>
    (cond ((x12.tmod (5 : Int)) == (4 : Int))
      ((corbelhand_Pick.f k x12 (40 : Int) q27.2).bind fun q28 =>
    (corbelhand_Bytes.f k x9 q28.1 q28.2).bind fun q29 =>
    some (q29.1, q29.2))
      (some (q27.1, q27.2)) : Option ((Sl) × H)).bind fun j30 =>
    some (j30.1, j30.2))
      (some (j25.1, q26.2)) : Option ((Sl) × H)).bind fun j31 =>
    (asS2 (apv 40 1 24 (Value.slice x17.a x17.n x17.c) (Value.slice (some ⟨j31.2.next, 0, none⟩) 1 1) (newR j31.2 40 1 [(Value.slice j31.1.a j31.1.n j31.1.c)]))).bind fun q32 =>
    ih x9 x10 x11 x12 x13 x14 x15 x16 q32.1 (wrapA .i64 (x18 + (1 : Int))) q32.2)
      (some (x17, h19))) n
theorem corbellaw5_CoderTells.l0_zero (k : Nat) (x9 : Int) (x10 : Sl) (x11 : Int) (x12 : Int) (x13 : Int) (x14 : Option Addr) (x15 : Sl) (x16 : Int) (x17 : Sl) (x18 : Int) (h19 : H) : corbellaw5_CoderTells.l0 k 0 x9 x10 x11 x12 x13 x14 x15 x16 x17 x18 h19 = none := rfl
theorem corbellaw5_CoderTells.l0_succ (k n : Nat) (x9 : Int) (x10 : Sl) (x11 : Int) (x12 : Int) (x13 : Int) (x14 : Option Addr) (x15 : Sl) (x16 : Int) (x17 : Sl) (x18 : Int) (h19 : H) : corbellaw5_CoderTells.l0 k (n + 1) x9 x10 x11 x12 x13 x14 x15 x16 x17 x18 h19 = (cond (decide (x18 < x16))
      ((asP (ixs 1 x15.a x15.n x18)).bind fun p20 =>
    (asS (ldc h19 p20)).bind fun s21 =>
    (cond (decide (x18 < (Int.ofNat x10.n))) ((asP (ixs 1 x10.a x10.n x18)).bind fun p22 =>
    (asB (ldc h19 p22)).bind fun b23 =>
    some (b23, h19))
      (some (false, h19))).bind fun g24 =>
    (cond g24.1
      (some ((⟨none, 0, 0⟩ : Sl), g24.2))
      (some (s21, g24.2)) : Option ((Sl) × H)).bind fun j25 =>
    (corbelhand_Pick.f k x11 (9 : Int) j25.2).bind fun q26 =>
    (cond (x18 == q26.1)
      ((corbelhand_Bytes.f k x9 (32 : Int) q26.2).bind fun q27 =>
    (cond ((x12.tmod (5 : Int)) == (4 : Int))
      ((corbelhand_Pick.f k x12 (40 : Int) q27.2).bind fun q28 =>
    (corbelhand_Bytes.f k x9 q28.1 q28.2).bind fun q29 =>
    some (q29.1, q29.2))
      (some (q27.1, q27.2)) : Option ((Sl) × H)).bind fun j30 =>
    some (j30.1, j30.2))
      (some (j25.1, q26.2)) : Option ((Sl) × H)).bind fun j31 =>
    (asS2 (apv 40 1 24 (Value.slice x17.a x17.n x17.c) (Value.slice (some ⟨j31.2.next, 0, none⟩) 1 1) (newR j31.2 40 1 [(Value.slice j31.1.a j31.1.n j31.1.c)]))).bind fun q32 =>
    corbellaw5_CoderTells.l0 k n x9 x10 x11 x12 x13 x14 x15 x16 q32.1 (wrapA .i64 (x18 + (1 : Int))) q32.2)
      (some (x17, h19))) := rfl
noncomputable def corbellaw5_CoderTells.f (k : Nat) (a0 : Int) (a1 : Int) (a2 : Sl) (a3 : Int) (a4 : Int) (a5 : Int) (h : H) : Option ((Bool) × H) :=
  (coder_New.f k h).bind fun q1 =>
    (cond (!true) (some (true, q1.2))
      ((asB (binO1 Try.prog .eql 53 (Value.pointer q1.1) (Value.pointer none))).bind fun b2 =>
    some (b2, q1.2))).bind fun g3 =>
    cond g3.1
      (some (false, g3.2))
      ((corbelhand_Bytes.f k a0 (128 : Int) g3.2).bind fun q4 =>
    (coder_Coder_Encode.f k q1.1 q4.1 q4.2).bind fun q5 =>
    (corbelref3_Encode.f k q4.1 q5.2).bind fun q6 =>
    (cond (q5.1.2 != (0 : Int)) (some (true, q6.2))
      ((corbellaw5_same.f k q5.1.1 q6.1 q6.2).bind fun q7 =>
    some (!q7.1, q7.2))).bind fun g8 =>
    cond g8.1
      (some (false, g8.2))
      ((corbellaw5_CoderTells.l0 k k a1 a2 a3 a4 a5 q1.1 q6.1 (Int.ofNat q6.1.n) (⟨none, 0, 0⟩ : Sl) (0 : Int) g8.2).bind fun w33 =>
    (cond ((a5.tmod (17 : Int)) == (16 : Int))
      ((corbelhand_Pick.f k (wrapA .i64 (a5.tdiv (17 : Int))) (6 : Int) w33.2).bind fun q34 =>
    (asS (subs 1 (Value.slice w33.1.a w33.1.n w33.1.c) none (some q34.1))).bind fun s35 =>
    some (s35, q34.2))
      (some (w33.1, w33.2)) : Option ((Sl) × H)).bind fun j36 =>
    (coder_Coder_Decode.f k q1.1 j36.1 j36.2).bind fun q37 =>
    (corbelref3_Decode.f k j36.1 q37.2).bind fun q38 =>
    (corbellaw5_CoderTells.l1 k k q1.1 j36.1 q37.1.1 q37.1.2 q38.1.1 q38.1.2 (Int.ofNat j36.1.n) ((Int.ofNat j36.1.n) == (6 : Int)) (0 : Int) q38.2).bind fun w52 =>
    (cond (q37.1.2 == q38.1.2) ((asT (txt w52.2 (Value.slice q37.1.1.a q37.1.1.n q37.1.1.c))).bind fun s53 =>
    (asT (txt w52.2 (Value.slice q38.1.1.a q38.1.1.n q38.1.1.c))).bind fun s54 =>
    some (s53.toList == s54.toList, w52.2))
      (some (false, w52.2))).bind fun g55 =>
    (cond g55.1 ((coder_Coder_Check.f k q1.1 j36.1 g55.2).bind fun q56 =>
    (cond w52.1 (some (q38.1.2, q56.2))
      (some (false, q56.2))).bind fun g57 =>
    (cond g57.1 ((corbelref3_Encode.f k q38.1.1 g57.2).bind fun q58 =>
    (corbellaw5_same.f k q58.1 j36.1 q58.2).bind fun q59 =>
    some (q59.1, q59.2))
      (some (false, g57.2))).bind fun g60 =>
    some (q56.1 == g60.1, g60.2))
      (some (false, g55.2))).bind fun g61 =>
    some (g61.1, g61.2)))
noncomputable def corbellaw5_CoderTells.T (k : Nat) : Tbl := tblOf [⟨42, anyArgs, wr [] [.ptr] (fun a h => coder_New.f k h)⟩,
  ⟨43, anyArgs, knownW⟩,
  ⟨44, anyArgs, wr [(.int .i64), (.int .i64)] [.sl] (fun a h => corbelhand_Bytes.f k (a.1) (a.2) h)⟩,
  ⟨45, anyArgs, wr [.ptr, .sl] [.sl, (.int .i64)] (fun a h => coder_Coder_Encode.f k (a.1) (a.2) h)⟩,
  ⟨47, anyArgs, wr [.sl] [.sl] (fun a h => corbelref3_Encode.f k a h)⟩,
  ⟨48, anyArgs, wr [.sl, .sl] [.bool] (fun a h => corbellaw5_same.f k (a.1) (a.2) h)⟩,
  ⟨36, anyArgs, wr [(.int .i64), (.int .i64)] [(.int .i64)] (fun a h => corbelhand_Pick.f k (a.1) (a.2) h)⟩,
  ⟨49, anyArgs, wr [.ptr, .sl] [.sl, .bool] (fun a h => coder_Coder_Decode.f k (a.1) (a.2) h)⟩,
  ⟨50, anyArgs, wr [.sl] [.sl, .bool] (fun a h => corbelref3_Decode.f k a h)⟩,
  ⟨51, anyArgs, wr [.ptr, .sl] [.bool] (fun a h => coder_Coder_Check.f k (a.1) (a.2) h)⟩]
noncomputable def corbellaw5_CoderTells.an (k : Nat) (p : Nat) : Option Ann := cond (Nat.beq p 131066) (some (.pass [13, 18, 21, 22, 23, 24] (lrun [(13, .ptr), (18, .sl), (21, .sl), (22, .bool), (23, .sl), (24, .bool), (112, (.int .i64)), (25, .bool), (113, (.int .i64))] none [(25, .bool)] 2 (fun a h => corbellaw5_CoderTells.l1 k k (a.1) (a.2.1) (a.2.2.1) (a.2.2.2.1) (a.2.2.2.2.1) (a.2.2.2.2.2.1) (a.2.2.2.2.2.2.1) (a.2.2.2.2.2.2.2.1) (a.2.2.2.2.2.2.2.2) h))))
  (cond (Nat.beq p 4093) (some (.join [13] none [(18, .sl)]))
  (cond (Nat.beq p 4090) (some (.pass [5, 13] (lrun [(1, (.int .i64)), (2, .sl), (3, (.int .i64)), (4, (.int .i64)), (5, (.int .i64)), (13, .ptr), (17, .sl), (53, (.int .i64)), (18, .sl), (54, (.int .i64))] none [(18, .sl)] 0 (fun a h => corbellaw5_CoderTells.l0 k k (a.1) (a.2.1) (a.2.2.1) (a.2.2.2.1) (a.2.2.2.2.1) (a.2.2.2.2.2.1) (a.2.2.2.2.2.2.1) (a.2.2.2.2.2.2.2.1) (a.2.2.2.2.2.2.2.2.1) (a.2.2.2.2.2.2.2.2.2) h))))
  (cond (Nat.beq p 4188573) (some (.join [1, 2, 3, 4, 5, 13, 17, 18, 53, 54] none [(20, .sl)]))
  (cond (Nat.beq p 33508587) (some (.join [1, 2, 3, 4, 5, 13, 17, 18, 53, 54] none [(20, .sl)]))
  (cond (Nat.beq p 2094285) (some (.join [1, 2, 3, 4, 5, 13, 17, 18, 19, 53, 54] none [(20, .sl)]))
  (none))))))
noncomputable def corbellaw5_CoderTells.body : Code := (Try.f14.body).getD .skip
noncomputable def corbellaw5_CoderTells.c4090 : Code := cat corbellaw5_CoderTells.body [1, 1, 1, 1, 1, 1, 1, 1, 0, 1, 0, 0]
noncomputable def corbellaw5_CoderTells.c131066 : Code := cat corbellaw5_CoderTells.body [1, 1, 1, 1, 1, 1, 1, 1, 1, 1, 1, 1, 1, 0, 1, 0, 0]
set_option maxRecDepth 100000 in
theorem corbellaw5_CoderTells.TS {C : FuncId → Bool} {X : CallF} (hX : XOk C X) (hK43 : KOk X 43) (k : Nat) : TblS Try.prog C X (corbellaw5_CoderTells.T k) := by
  refine tblOf_sound ?_
  intro e he
  rcases List.mem_cons.1 he with rfl | he
  · exact wr_told (coder_New.told hX k)
  rcases List.mem_cons.1 he with rfl | he
  · exact knownW_told hK43
  rcases List.mem_cons.1 he with rfl | he
  · exact wr_told (corbelhand_Bytes.told hX k)
  rcases List.mem_cons.1 he with rfl | he
  · exact wr_told (coder_Coder_Encode.told hX k)
  rcases List.mem_cons.1 he with rfl | he
  · exact wr_told (corbelref3_Encode.told hX k)
  rcases List.mem_cons.1 he with rfl | he
  · exact wr_told (corbellaw5_same.told hX k)
  rcases List.mem_cons.1 he with rfl | he
  · exact wr_told (corbelhand_Pick.told hX k)
  rcases List.mem_cons.1 he with rfl | he
  · exact wr_told (coder_Coder_Decode.told hX k)
  rcases List.mem_cons.1 he with rfl | he
  · exact wr_told (corbelref3_Decode.told hX k)
  rcases List.mem_cons.1 he with rfl | he
  · exact wr_told (coder_Coder_Check.told hX k)
  exact absurd he List.not_mem_nil
set_option maxRecDepth 100000 in
theorem corbellaw5_CoderTells.l1_pass {C : FuncId → Bool} {X : CallF} (hX : XOk C X) (hK43 : KOk X 43) (k n : Nat) : PassS Try.prog C X 152 (.loop corbellaw5_CoderTells.c131066) (lrun [(13, .ptr), (18, .sl), (21, .sl), (22, .bool), (23, .sl), (24, .bool), (112, (.int .i64)), (25, .bool), (113, (.int .i64))] none [(25, .bool)] 2 (fun a h => corbellaw5_CoderTells.l1 k n (a.1) (a.2.1) (a.2.2.1) (a.2.2.2.1) (a.2.2.2.2.1) (a.2.2.2.2.2.1) (a.2.2.2.2.2.2.1) (a.2.2.2.2.2.2.2.1) (a.2.2.2.2.2.2.2.2) h)) :=
  loop_pass (ins := [(13, .ptr), (18, .sl), (21, .sl), (22, .bool), (23, .sl), (24, .bool), (112, (.int .i64)), (25, .bool), (113, (.int .i64))]) (rets := none) (outs := [(25, .bool)]) (id := 2) (tbl := corbellaw5_CoderTells.T k) (an := corbellaw5_CoderTells.an k) (pb := 262132) (corbellaw5_CoderTells.TS hX hK43 k) (fun n => (fun a h => corbellaw5_CoderTells.l1 k n (a.1) (a.2.1) (a.2.2.1) (a.2.2.2.1) (a.2.2.2.2.1) (a.2.2.2.2.2.1) (a.2.2.2.2.2.2.1) (a.2.2.2.2.2.2.2.1) (a.2.2.2.2.2.2.2.2) h)) (fun a h => rfl) (fun n a h => by kernel_rfl)
    (by
      have e : need (corbellaw5_CoderTells.an k) corbellaw5_CoderTells.c131066 262132 = [] := by kernel_rfl
      rw [e]; intro q hq; cases hq) n
set_option maxRecDepth 100000 in
theorem corbellaw5_CoderTells.l0_pass {C : FuncId → Bool} {X : CallF} (hX : XOk C X) (hK43 : KOk X 43) (k n : Nat) : PassS Try.prog C X 152 (.loop corbellaw5_CoderTells.c4090) (lrun [(1, (.int .i64)), (2, .sl), (3, (.int .i64)), (4, (.int .i64)), (5, (.int .i64)), (13, .ptr), (17, .sl), (53, (.int .i64)), (18, .sl), (54, (.int .i64))] none [(18, .sl)] 0 (fun a h => corbellaw5_CoderTells.l0 k n (a.1) (a.2.1) (a.2.2.1) (a.2.2.2.1) (a.2.2.2.2.1) (a.2.2.2.2.2.1) (a.2.2.2.2.2.2.1) (a.2.2.2.2.2.2.2.1) (a.2.2.2.2.2.2.2.2.1) (a.2.2.2.2.2.2.2.2.2) h)) :=
  loop_pass (ins := [(1, (.int .i64)), (2, .sl), (3, (.int .i64)), (4, (.int .i64)), (5, (.int .i64)), (13, .ptr), (17, .sl), (53, (.int .i64)), (18, .sl), (54, (.int .i64))]) (rets := none) (outs := [(18, .sl)]) (id := 0) (tbl := corbellaw5_CoderTells.T k) (an := corbellaw5_CoderTells.an k) (pb := 8180) (corbellaw5_CoderTells.TS hX hK43 k) (fun n => (fun a h => corbellaw5_CoderTells.l0 k n (a.1) (a.2.1) (a.2.2.1) (a.2.2.2.1) (a.2.2.2.2.1) (a.2.2.2.2.2.1) (a.2.2.2.2.2.2.1) (a.2.2.2.2.2.2.2.1) (a.2.2.2.2.2.2.2.2.1) (a.2.2.2.2.2.2.2.2.2) h)) (fun a h => rfl) (fun n a h => by kernel_rfl)
    (by
      have e : need (corbellaw5_CoderTells.an k) corbellaw5_CoderTells.c4090 8180 = [] := by kernel_rfl
      rw [e]; intro q hq; cases hq) n
set_option maxRecDepth 100000 in
theorem corbellaw5_CoderTells.eq (k : Nat) (a : RT [(.int .i64), (.int .i64), .sl, (.int .i64), (.int .i64), (.int .i64)]) (h : H) : (fun a h => corbellaw5_CoderTells.f k (a.1) (a.2.1) (a.2.2.1) (a.2.2.2.1) (a.2.2.2.2.1) (a.2.2.2.2.2) h) a h = kfun Try.prog (corbellaw5_CoderTells.T k) (corbellaw5_CoderTells.an k) (RT [.bool] × H) Try.f14 (encL [(.int .i64), (.int .i64), .sl, (.int .i64), (.int .i64), (.int .i64)] a) h (fun vs h' => (decL [.bool] vs).bind fun x => some (x, h')) := by kernel_rfl
set_option maxRecDepth 100000 in
theorem corbellaw5_CoderTells.told {C : FuncId → Bool} {X : CallF} (hX : XOk C X) (hK43 : KOk X 43) (k : Nat) : Den.Told Try.prog C X 14 [(.int .i64), (.int .i64), .sl, (.int .i64), (.int .i64), (.int .i64)] [.bool] (fun a h => corbellaw5_CoderTells.f k (a.1) (a.2.1) (a.2.2.1) (a.2.2.2.1) (a.2.2.2.2.1) (a.2.2.2.2.2) h) :=
  told_of fun a h q e => fn_of (c := corbellaw5_CoderTells.body) (corbellaw5_CoderTells.TS hX hK43 k) Try.func14 (by kernel_rfl) (hX.no 14 _ h (by decide))
    (by
      have e : need (corbellaw5_CoderTells.an k) corbellaw5_CoderTells.body 1 = [(Code.loop corbellaw5_CoderTells.c4090, lrun [(1, (.int .i64)), (2, .sl), (3, (.int .i64)), (4, (.int .i64)), (5, (.int .i64)), (13, .ptr), (17, .sl), (53, (.int .i64)), (18, .sl), (54, (.int .i64))] none [(18, .sl)] 0 (fun a h => corbellaw5_CoderTells.l0 k k (a.1) (a.2.1) (a.2.2.1) (a.2.2.2.1) (a.2.2.2.2.1) (a.2.2.2.2.2.1) (a.2.2.2.2.2.2.1) (a.2.2.2.2.2.2.2.1) (a.2.2.2.2.2.2.2.2.1) (a.2.2.2.2.2.2.2.2.2) h)), (Code.loop corbellaw5_CoderTells.c131066, lrun [(13, .ptr), (18, .sl), (21, .sl), (22, .bool), (23, .sl), (24, .bool), (112, (.int .i64)), (25, .bool), (113, (.int .i64))] none [(25, .bool)] 2 (fun a h => corbellaw5_CoderTells.l1 k k (a.1) (a.2.1) (a.2.2.1) (a.2.2.2.1) (a.2.2.2.2.1) (a.2.2.2.2.2.1) (a.2.2.2.2.2.2.1) (a.2.2.2.2.2.2.2.1) (a.2.2.2.2.2.2.2.2) h))] := by kernel_rfl
      rw [e]; intro q hq
      rcases List.mem_cons.1 hq with rfl | hq
      · exact corbellaw5_CoderTells.l0_pass hX hK43 k k
      rcases List.mem_cons.1 hq with rfl | hq
      · exact corbellaw5_CoderTells.l1_pass hX hK43 k k
      cases hq)
    ((corbellaw5_CoderTells.eq k a h).symm.trans e)
end Go.Proofs.Ytnjeafdbifcfhaa.Fwd
