/- Forward runs of functions of the program, printed by a program of this session: each function on plain values and memory, and that the code comes to it. No condition. -/
import Derived.Test.YtbegaeohggkblaaDenZ
import Derived.KernelRfl
import Derived.Test.YtbegaeohggkblaaFLaw7
import Derived.Test.YtbegaeohggkblaaFPlat
import Derived.Test.YtbegaeohggkblaaFRefP
namespace Go.Proofs.Ytbegaeohggkblaa.Fwd
open Go Den
set_option linter.unusedVariables false
/-! ### corbel/mark.Sum -/
noncomputable def mark_Sum.l0 (k : Nat) (n : Nat) : Sl → Int → Int → Int → H → Option ((Int) × H) :=
  Nat.rec (motive := fun _ => Sl → Int → Int → Int → H → Option ((Int) × H)) (fun _ _ _ _ _ => none) (fun _ ih x1 x2 x3 x4 h5 => cond (decide (x4 < x2))
      ((asP (ixs 1 x1.a x1.n x4)).bind fun p6 =>
    (asI .u8 (ldc h5 p6)).bind fun n7 =>
    ih x1 x2 ((wrapA .i64 ((wrapA .i64 ((wrapA .i64 (x3 * (31 : Int))) + (wrapA .i64 ((wrapA .i64 n7) * (wrapA .i64 n7))))) + (7 : Int))).tmod (4294967291 : Int)) (wrapA .i64 (x4 + (1 : Int))) h5)
      (some (x3, h5))) n
theorem mark_Sum.l0_zero (k : Nat) (x1 : Sl) (x2 : Int) (x3 : Int) (x4 : Int) (h5 : H) : mark_Sum.l0 k 0 x1 x2 x3 x4 h5 = none := rfl
theorem mark_Sum.l0_succ (k n : Nat) (x1 : Sl) (x2 : Int) (x3 : Int) (x4 : Int) (h5 : H) : mark_Sum.l0 k (n + 1) x1 x2 x3 x4 h5 = (cond (decide (x4 < x2))
      ((asP (ixs 1 x1.a x1.n x4)).bind fun p6 =>
    (asI .u8 (ldc h5 p6)).bind fun n7 =>
    mark_Sum.l0 k n x1 x2 ((wrapA .i64 ((wrapA .i64 ((wrapA .i64 (x3 * (31 : Int))) + (wrapA .i64 ((wrapA .i64 n7) * (wrapA .i64 n7))))) + (7 : Int))).tmod (4294967291 : Int)) (wrapA .i64 (x4 + (1 : Int))) h5)
      (some (x3, h5))) := rfl
noncomputable def mark_Sum.f (k : Nat) (a0 : Sl) (h : H) : Option ((Int) × H) :=
  (mark_Sum.l0 k k a0 (Int.ofNat a0.n) (1 : Int) (0 : Int) h).bind fun w8 =>
    some (w8.1, w8.2)
noncomputable def mark_Sum.T (k : Nat) : Tbl := tblOf []
noncomputable def mark_Sum.an (k : Nat) (p : Nat) : Option Ann := cond (Nat.beq p 58) (some (.pass [] (lrun [(6, .sl), (7, (.int .i64)), (3, (.int .i64)), (8, (.int .i64))] none [(3, (.int .i64))] 0 (fun a h => mark_Sum.l0 k k (a.1) (a.2.1) (a.2.2.1) (a.2.2.2) h))))
  (none)
noncomputable def mark_Sum.body : Code := (Try.f22.body).getD .skip
noncomputable def mark_Sum.c58 : Code := cat mark_Sum.body [1, 1, 0, 1, 0, 0]
set_option maxRecDepth 100000 in
theorem mark_Sum.TS {C : FuncId → Bool} {X : CallF} (hX : XOk C X) (k : Nat) : TblS Try.prog C X (mark_Sum.T k) := by
  refine tblOf_sound ?_
  intro e he
  exact absurd he List.not_mem_nil
set_option maxRecDepth 100000 in
theorem mark_Sum.l0_pass {C : FuncId → Bool} {X : CallF} (hX : XOk C X) (k n : Nat) : PassS Try.prog C X 24 (.loop mark_Sum.c58) (lrun [(6, .sl), (7, (.int .i64)), (3, (.int .i64)), (8, (.int .i64))] none [(3, (.int .i64))] 0 (fun a h => mark_Sum.l0 k n (a.1) (a.2.1) (a.2.2.1) (a.2.2.2) h)) :=
  loop_pass (ins := [(6, .sl), (7, (.int .i64)), (3, (.int .i64)), (8, (.int .i64))]) (rets := none) (outs := [(3, (.int .i64))]) (id := 0) (tbl := mark_Sum.T k) (an := mark_Sum.an k) (pb := 116) (mark_Sum.TS hX k) (fun n => (fun a h => mark_Sum.l0 k n (a.1) (a.2.1) (a.2.2.1) (a.2.2.2) h)) (fun a h => rfl) (fun n a h => by kernel_rfl)
    (by
      have e : need (mark_Sum.an k) mark_Sum.c58 116 = [] := by kernel_rfl
      rw [e]; intro q hq; cases hq) n
set_option maxRecDepth 100000 in
theorem mark_Sum.eq (k : Nat) (a : RT [.sl]) (h : H) : (fun a h => mark_Sum.f k a h) a h = kfun Try.prog (mark_Sum.T k) (mark_Sum.an k) (RT [(.int .i64)] × H) Try.f22 (encL [.sl] a) h (fun vs h' => (decL [(.int .i64)] vs).bind fun x => some (x, h')) := by kernel_rfl
set_option maxRecDepth 100000 in
theorem mark_Sum.told {C : FuncId → Bool} {X : CallF} (hX : XOk C X) (k : Nat) : Den.Told Try.prog C X 22 [.sl] [(.int .i64)] (fun a h => mark_Sum.f k a h) :=
  told_of fun a h q e => fn_of (c := mark_Sum.body) (mark_Sum.TS hX k) Try.func22 (by kernel_rfl) (hX.no 22 _ h (by decide))
    (by
      have e : need (mark_Sum.an k) mark_Sum.body 1 = [(Code.loop mark_Sum.c58, lrun [(6, .sl), (7, (.int .i64)), (3, (.int .i64)), (8, (.int .i64))] none [(3, (.int .i64))] 0 (fun a h => mark_Sum.l0 k k (a.1) (a.2.1) (a.2.2.1) (a.2.2.2) h))] := by kernel_rfl
      rw [e]; intro q hq
      rcases List.mem_cons.1 hq with rfl | hq
      · exact mark_Sum.l0_pass hX k k
      cases hq)
    ((mark_Sum.eq k a h).symm.trans e)
/-! ### corbel/mark.Seal -/
noncomputable def mark_Seal.f (k : Nat) (a0 : Int) (a1 : Sl) (h : H) : Option ((Sl × Int) × H) :=
  (cond (decide (a0 < (1 : Int))) (some (true, h))
      (some (decide (a0 > (255 : Int)), h))).bind fun g1 =>
    (cond g1.1 (some (true, g1.2))
      (some (decide ((Int.ofNat a1.n) > (153 : Int)), g1.2))).bind fun g2 =>
    cond g2.1
      (some (((⟨none, 0, 0⟩ : Sl), (1 : Int)), g2.2))
      ((asP (ixs 1 (some ⟨g2.2.next, 0, none⟩) 156 (0 : Int))).bind fun p3 =>
    (stv 1 (newZ g2.2 5 1 [(Value.int .u8 (0 : Int))] 156) p3 [(Value.int .u8 (wrapA .u8 a0))]).bind fun q4 =>
    (asP (ixs 1 (some ⟨g2.2.next, 0, none⟩) 156 (1 : Int))).bind fun p5 =>
    (stv 1 q4.2 p5 [(Value.int .u8 (wrapA .u8 ((Int.ofNat a1.n).fdiv (2 ^ 8))))]).bind fun q6 =>
    (asP (ixs 1 (some ⟨g2.2.next, 0, none⟩) 156 (2 : Int))).bind fun p7 =>
    (stv 1 q6.2 p7 [(Value.int .u8 (wrapA .u8 (Int.ofNat a1.n)))]).bind fun q8 =>
    (asS (subs 1 (Value.slice (some ⟨g2.2.next, 0, none⟩) 156 156) (some (3 : Int)) none)).bind fun s9 =>
    (asI2 .i64 (cpy 1 (Value.slice s9.a s9.n s9.c) (Value.slice a1.a a1.n a1.c) q8.2)).bind fun q10 =>
    (mark_Sum.f k (⟨(some ⟨g2.2.next, 0, none⟩), 156, 156⟩ : Sl) q10.2).bind fun q11 =>
    (asS2 (apv 5 1 1 (Value.slice (some ⟨g2.2.next, 0, none⟩) 156 156) (Value.slice (some ⟨q11.2.next, 0, none⟩) 4 4) (newR q11.2 5 1 [(Value.int .u8 (wrapA .u8 (q11.1.fdiv (2 ^ 24)))), (Value.int .u8 (wrapA .u8 (q11.1.fdiv (2 ^ 16)))), (Value.int .u8 (wrapA .u8 (q11.1.fdiv (2 ^ 8)))), (Value.int .u8 (wrapA .u8 q11.1))]))).bind fun q12 =>
    some ((q12.1, (0 : Int)), q12.2))
noncomputable def mark_Seal.T (k : Nat) : Tbl := tblOf [⟨22, anyArgs, wr [.sl] [(.int .i64)] (fun a h => mark_Sum.f k a h)⟩]
noncomputable def mark_Seal.an (k : Nat) (p : Nat) : Option Ann := none
noncomputable def mark_Seal.body : Code := (Try.f14.body).getD .skip
set_option maxRecDepth 100000 in
theorem mark_Seal.TS {C : FuncId → Bool} {X : CallF} (hX : XOk C X) (k : Nat) : TblS Try.prog C X (mark_Seal.T k) := by
  refine tblOf_sound ?_
  intro e he
  rcases List.mem_cons.1 he with rfl | he
  · exact wr_told (mark_Sum.told hX k)
  exact absurd he List.not_mem_nil
set_option maxRecDepth 100000 in
theorem mark_Seal.eq (k : Nat) (a : RT [(.int .i64), .sl]) (h : H) : (fun a h => mark_Seal.f k (a.1) (a.2) h) a h = kfun Try.prog (mark_Seal.T k) (mark_Seal.an k) (RT [.sl, (.int .i64)] × H) Try.f14 (encL [(.int .i64), .sl] a) h (fun vs h' => (decL [.sl, (.int .i64)] vs).bind fun x => some (x, h')) := by kernel_rfl
set_option maxRecDepth 100000 in
theorem mark_Seal.told {C : FuncId → Bool} {X : CallF} (hX : XOk C X) (k : Nat) : Den.Told Try.prog C X 14 [(.int .i64), .sl] [.sl, (.int .i64)] (fun a h => mark_Seal.f k (a.1) (a.2) h) :=
  told_of fun a h q e => fn_of (c := mark_Seal.body) (mark_Seal.TS hX k) Try.func14 (by kernel_rfl) (hX.no 14 _ h (by decide))
    (by
      have e : need (mark_Seal.an k) mark_Seal.body 1 = [] := by kernel_rfl
      rw [e]; intro q hq; cases hq)
    ((mark_Seal.eq k a h).symm.trans e)
/-! ### slices.Equal[[]byte,byte] -/
noncomputable def slices_Equal_byte_byte.l0 (k : Nat) (n : Nat) : Sl → Sl → Int → Int → H → Option (((Bool) ⊕ (Unit)) × H) :=
  Nat.rec (motive := fun _ => Sl → Sl → Int → Int → H → Option (((Bool) ⊕ (Unit)) × H)) (fun _ _ _ _ _ => none) (fun _ ih x1 x2 x3 x4 h5 => cond (decide (x4 < x3))
      ((asP (ixs 1 x1.a x1.n x4)).bind fun p6 =>
    (asI .u8 (ldc h5 p6)).bind fun n7 =>
    (asP (ixs 1 x2.a x2.n x4)).bind fun p8 =>
    (asI .u8 (ldc h5 p8)).bind fun n9 =>
    cond (n7 != n9)
      (some (Sum.inl false, h5))
      (ih x1 x2 x3 (wrapA .i64 (x4 + (1 : Int))) h5))
      (some (Sum.inr (), h5))) n
theorem slices_Equal_byte_byte.l0_zero (k : Nat) (x1 : Sl) (x2 : Sl) (x3 : Int) (x4 : Int) (h5 : H) : slices_Equal_byte_byte.l0 k 0 x1 x2 x3 x4 h5 = none := rfl
theorem slices_Equal_byte_byte.l0_succ (k n : Nat) (x1 : Sl) (x2 : Sl) (x3 : Int) (x4 : Int) (h5 : H) : slices_Equal_byte_byte.l0 k (n + 1) x1 x2 x3 x4 h5 = (cond (decide (x4 < x3))
      ((asP (ixs 1 x1.a x1.n x4)).bind fun p6 =>
    (asI .u8 (ldc h5 p6)).bind fun n7 =>
    (asP (ixs 1 x2.a x2.n x4)).bind fun p8 =>
    (asI .u8 (ldc h5 p8)).bind fun n9 =>
    cond (n7 != n9)
      (some (Sum.inl false, h5))
      (slices_Equal_byte_byte.l0 k n x1 x2 x3 (wrapA .i64 (x4 + (1 : Int))) h5))
      (some (Sum.inr (), h5))) := rfl
noncomputable def slices_Equal_byte_byte.f (k : Nat) (a0 : Sl) (a1 : Sl) (h : H) : Option ((Bool) × H) :=
  cond ((Int.ofNat a0.n) != (Int.ofNat a1.n))
      (some (false, h))
      ((slices_Equal_byte_byte.l0 k k a0 a1 (Int.ofNat a0.n) (0 : Int) h).bind fun w10 =>
    match w10.1 with
    | .inl r11 => some (r11, w10.2)
    | .inr o12 => some (true, w10.2))
noncomputable def slices_Equal_byte_byte.T (k : Nat) : Tbl := tblOf []
noncomputable def slices_Equal_byte_byte.an (k : Nat) (p : Nat) : Option Ann := cond (Nat.beq p 58) (some (.pass [] (lrun [(0, .sl), (1, .sl), (12, (.int .i64)), (13, (.int .i64))] (some [(4, .bool)]) [] 0 (fun a h => slices_Equal_byte_byte.l0 k k (a.1) (a.2.1) (a.2.2.1) (a.2.2.2) h))))
  (none)
noncomputable def slices_Equal_byte_byte.body : Code := (Try.f52.body).getD .skip
noncomputable def slices_Equal_byte_byte.c58 : Code := cat slices_Equal_byte_byte.body [1, 1, 0, 1, 0, 0]
set_option maxRecDepth 100000 in
theorem slices_Equal_byte_byte.TS {C : FuncId → Bool} {X : CallF} (hX : XOk C X) (k : Nat) : TblS Try.prog C X (slices_Equal_byte_byte.T k) := by
  refine tblOf_sound ?_
  intro e he
  exact absurd he List.not_mem_nil
set_option maxRecDepth 100000 in
theorem slices_Equal_byte_byte.l0_pass {C : FuncId → Bool} {X : CallF} (hX : XOk C X) (k n : Nat) : PassS Try.prog C X 26 (.loop slices_Equal_byte_byte.c58) (lrun [(0, .sl), (1, .sl), (12, (.int .i64)), (13, (.int .i64))] (some [(4, .bool)]) [] 0 (fun a h => slices_Equal_byte_byte.l0 k n (a.1) (a.2.1) (a.2.2.1) (a.2.2.2) h)) :=
  loop_pass (ins := [(0, .sl), (1, .sl), (12, (.int .i64)), (13, (.int .i64))]) (rets := (some [(4, .bool)])) (outs := []) (id := 0) (tbl := slices_Equal_byte_byte.T k) (an := slices_Equal_byte_byte.an k) (pb := 116) (slices_Equal_byte_byte.TS hX k) (fun n => (fun a h => slices_Equal_byte_byte.l0 k n (a.1) (a.2.1) (a.2.2.1) (a.2.2.2) h)) (fun a h => rfl) (fun n a h => by kernel_rfl)
    (by
      have e : need (slices_Equal_byte_byte.an k) slices_Equal_byte_byte.c58 116 = [] := by kernel_rfl
      rw [e]; intro q hq; cases hq) n
set_option maxRecDepth 100000 in
theorem slices_Equal_byte_byte.eq (k : Nat) (a : RT [.sl, .sl]) (h : H) : (fun a h => slices_Equal_byte_byte.f k (a.1) (a.2) h) a h = kfun Try.prog (slices_Equal_byte_byte.T k) (slices_Equal_byte_byte.an k) (RT [.bool] × H) Try.f52 (encL [.sl, .sl] a) h (fun vs h' => (decL [.bool] vs).bind fun x => some (x, h')) := by kernel_rfl
set_option maxRecDepth 100000 in
theorem slices_Equal_byte_byte.told {C : FuncId → Bool} {X : CallF} (hX : XOk C X) (k : Nat) : Den.Told Try.prog C X 52 [.sl, .sl] [.bool] (fun a h => slices_Equal_byte_byte.f k (a.1) (a.2) h) :=
  told_of fun a h q e => fn_of (c := slices_Equal_byte_byte.body) (slices_Equal_byte_byte.TS hX k) Try.func52 (by kernel_rfl) (hX.no 52 _ h (by decide))
    (by
      have e : need (slices_Equal_byte_byte.an k) slices_Equal_byte_byte.body 1 = [(Code.loop slices_Equal_byte_byte.c58, lrun [(0, .sl), (1, .sl), (12, (.int .i64)), (13, (.int .i64))] (some [(4, .bool)]) [] 0 (fun a h => slices_Equal_byte_byte.l0 k k (a.1) (a.2.1) (a.2.2.1) (a.2.2.2) h))] := by kernel_rfl
      rw [e]; intro q hq
      rcases List.mem_cons.1 hq with rfl | hq
      · exact slices_Equal_byte_byte.l0_pass hX k k
      cases hq)
    ((slices_Equal_byte_byte.eq k a h).symm.trans e)
/-! ### corbel/mark.Open -/
noncomputable def mark_Open.f (k : Nat) (a0 : Sl) (h : H) : Option ((Int × Sl × Int) × H) :=
  cond ((Int.ofNat a0.n) != (160 : Int))
      (some (((0 : Int), (⟨none, 0, 0⟩ : Sl), (2 : Int)), h))
      ((asP (ixs 1 a0.a a0.n (156 : Int))).bind fun p1 =>
    (asI .u8 (ldc h p1)).bind fun n2 =>
    (asP (ixs 1 a0.a a0.n (wrapA .i64 ((156 : Int) + (1 : Int))))).bind fun p3 =>
    (asI .u8 (ldc h p3)).bind fun n4 =>
    (asI .i64 (intA .or .i64 (wrapA .i64 ((wrapA .i64 n2) * 2 ^ 24)) (wrapA .i64 ((wrapA .i64 n4) * 2 ^ 16)))).bind fun n5 =>
    (asP (ixs 1 a0.a a0.n (wrapA .i64 ((156 : Int) + (2 : Int))))).bind fun p6 =>
    (asI .u8 (ldc h p6)).bind fun n7 =>
    (asI .i64 (intA .or .i64 n5 (wrapA .i64 ((wrapA .i64 n7) * 2 ^ 8)))).bind fun n8 =>
    (asP (ixs 1 a0.a a0.n (wrapA .i64 ((156 : Int) + (3 : Int))))).bind fun p9 =>
    (asI .u8 (ldc h p9)).bind fun n10 =>
    (asI .i64 (intA .or .i64 n8 (wrapA .i64 n10))).bind fun n11 =>
    (asS (subs 1 (Value.slice a0.a a0.n a0.c) none (some (156 : Int)))).bind fun s12 =>
    (mark_Sum.f k s12 h).bind fun q13 =>
    cond (q13.1 != n11)
      (some (((0 : Int), (⟨none, 0, 0⟩ : Sl), (3 : Int)), q13.2))
      ((asP (ixs 1 a0.a a0.n (1 : Int))).bind fun p14 =>
    (asI .u8 (ldc q13.2 p14)).bind fun n15 =>
    (asP (ixs 1 a0.a a0.n (2 : Int))).bind fun p16 =>
    (asI .u8 (ldc q13.2 p16)).bind fun n17 =>
    (asI .i64 (intA .or .i64 (wrapA .i64 ((wrapA .i64 n15) * 2 ^ 8)) (wrapA .i64 n17))).bind fun n18 =>
    (asP (ixs 1 a0.a a0.n (0 : Int))).bind fun p19 =>
    (asI .u8 (ldc q13.2 p19)).bind fun n20 =>
    (asS (subs 1 (Value.slice a0.a a0.n a0.c) (some (3 : Int)) (some (wrapA .i64 ((3 : Int) + (cond (decide ((153 : Int) < n18)) (153 : Int) n18)))))).bind fun s21 =>
    (slices_Clone_byte_byte.f k s21 q13.2).bind fun q22 =>
    cond (same1 q13.2 q22.2 (some (Value.pointer p19)) && (true)) ((mark_Seal.f k (wrapA .i64 n20) q22.1 q22.2).bind fun q23 =>
    (cond (q23.1.2 != (0 : Int)) (some (true, q23.2))
      ((slices_Equal_byte_byte.f k q23.1.1 a0 q23.2).bind fun q24 =>
    some (!q24.1, q24.2))).bind fun g25 =>
    cond g25.1
      (some (((0 : Int), (⟨none, 0, 0⟩ : Sl), (2 : Int)), g25.2))
      (some ((wrapA .i64 n20, q22.1, (0 : Int)), g25.2))) none))
noncomputable def mark_Open.T (k : Nat) : Tbl := tblOf [⟨22, anyArgs, wr [.sl] [(.int .i64)] (fun a h => mark_Sum.f k a h)⟩,
  ⟨51, anyArgs, wr [.sl] [.sl] (fun a h => slices_Clone_byte_byte.f k a h)⟩,
  ⟨14, anyArgs, wr [(.int .i64), .sl] [.sl, (.int .i64)] (fun a h => mark_Seal.f k (a.1) (a.2) h)⟩,
  ⟨52, anyArgs, wr [.sl, .sl] [.bool] (fun a h => slices_Equal_byte_byte.f k (a.1) (a.2) h)⟩]
noncomputable def mark_Open.an (k : Nat) (p : Nat) : Option Ann := none
noncomputable def mark_Open.body : Code := (Try.f16.body).getD .skip
set_option maxRecDepth 100000 in
theorem mark_Open.TS {C : FuncId → Bool} {X : CallF} (hX : XOk C X) (k : Nat) : TblS Try.prog C X (mark_Open.T k) := by
  refine tblOf_sound ?_
  intro e he
  rcases List.mem_cons.1 he with rfl | he
  · exact wr_told (mark_Sum.told hX k)
  rcases List.mem_cons.1 he with rfl | he
  · exact wr_told (slices_Clone_byte_byte.told hX k)
  rcases List.mem_cons.1 he with rfl | he
  · exact wr_told (mark_Seal.told hX k)
  rcases List.mem_cons.1 he with rfl | he
  · exact wr_told (slices_Equal_byte_byte.told hX k)
  exact absurd he List.not_mem_nil
set_option maxRecDepth 100000 in
theorem mark_Open.eq (k : Nat) (a : RT [.sl]) (h : H) : (fun a h => mark_Open.f k a h) a h = kfun Try.prog (mark_Open.T k) (mark_Open.an k) (RT [(.int .i64), .sl, (.int .i64)] × H) Try.f16 (encL [.sl] a) h (fun vs h' => (decL [(.int .i64), .sl, (.int .i64)] vs).bind fun x => some (x, h')) := by kernel_rfl
set_option maxRecDepth 100000 in
theorem mark_Open.told {C : FuncId → Bool} {X : CallF} (hX : XOk C X) (k : Nat) : Den.Told Try.prog C X 16 [.sl] [(.int .i64), .sl, (.int .i64)] (fun a h => mark_Open.f k a h) :=
  told_of fun a h q e => fn_of (c := mark_Open.body) (mark_Open.TS hX k) Try.func16 (by kernel_rfl) (hX.no 16 _ h (by decide))
    (by
      have e : need (mark_Open.an k) mark_Open.body 1 = [] := by kernel_rfl
      rw [e]; intro q hq; cases hq)
    ((mark_Open.eq k a h).symm.trans e)
/-! ### corbel/corbellaw9.one -/
noncomputable def corbellaw9_one.f (k : Nat) (a0 : Int) (a1 : Int) (a2 : Int) (h : H) : Option (((Int × Int × Sl)) × H) :=
  (corbelhand_Bytes.f k a2 (128 : Int) (newR h 75 3 [(Value.int .i64 (0 : Int)), (Value.int .i64 (0 : Int)), (Value.slice none 0 0)])).bind fun q1 =>
    (stv 3 q1.2 (some ⟨h.next, 0, none⟩) [(Value.int .i64 a0), (Value.int .i64 a1), (Value.slice q1.1.a q1.1.n q1.1.c)]).bind fun q2 =>
    (asSt [(.int .i64), (.int .i64), .sl] (lda 3 q2.2 (some ⟨h.next, 0, none⟩))).bind fun s3 =>
    some ((s3.1, s3.2.1, s3.2.2), q2.2)
noncomputable def corbellaw9_one.T (k : Nat) : Tbl := tblOf [⟨23, anyArgs, wr [(.int .i64), (.int .i64)] [.sl] (fun a h => corbelhand_Bytes.f k (a.1) (a.2) h)⟩]
noncomputable def corbellaw9_one.an (k : Nat) (p : Nat) : Option Ann := none
noncomputable def corbellaw9_one.body : Code := (Try.f44.body).getD .skip
set_option maxRecDepth 100000 in
theorem corbellaw9_one.TS {C : FuncId → Bool} {X : CallF} (hX : XOk C X) (k : Nat) : TblS Try.prog C X (corbellaw9_one.T k) := by
  refine tblOf_sound ?_
  intro e he
  rcases List.mem_cons.1 he with rfl | he
  · exact wr_told (corbelhand_Bytes.told hX k)
  exact absurd he List.not_mem_nil
set_option maxRecDepth 100000 in
theorem corbellaw9_one.eq (k : Nat) (a : RT [(.int .i64), (.int .i64), (.int .i64)]) (h : H) : (fun a h => corbellaw9_one.f k (a.1) (a.2.1) (a.2.2) h) a h = kfun Try.prog (corbellaw9_one.T k) (corbellaw9_one.an k) (RT [(.st [(.int .i64), (.int .i64), .sl])] × H) Try.f44 (encL [(.int .i64), (.int .i64), (.int .i64)] a) h (fun vs h' => (decL [(.st [(.int .i64), (.int .i64), .sl])] vs).bind fun x => some (x, h')) := by kernel_rfl
set_option maxRecDepth 100000 in
theorem corbellaw9_one.told {C : FuncId → Bool} {X : CallF} (hX : XOk C X) (k : Nat) : Den.Told Try.prog C X 44 [(.int .i64), (.int .i64), (.int .i64)] [(.st [(.int .i64), (.int .i64), .sl])] (fun a h => corbellaw9_one.f k (a.1) (a.2.1) (a.2.2) h) :=
  told_of fun a h q e => fn_of (c := corbellaw9_one.body) (corbellaw9_one.TS hX k) Try.func44 (by kernel_rfl) (hX.no 44 _ h (by decide))
    (by
      have e : need (corbellaw9_one.an k) corbellaw9_one.body 1 = [] := by kernel_rfl
      rw [e]; intro q hq; cases hq)
    ((corbellaw9_one.eq k a h).symm.trans e)
/-! ### corbel/intent.block -/
noncomputable def intent_block.f (k : Nat) (a0 : Int) (h : H) : Option ((Int) × H) :=
  some (wrapA .i64 ((80 : Int) + a0), h)
noncomputable def intent_block.T (k : Nat) : Tbl := tblOf []
noncomputable def intent_block.an (k : Nat) (p : Nat) : Option Ann := none
noncomputable def intent_block.body : Code := (Try.f59.body).getD .skip
set_option maxRecDepth 100000 in
theorem intent_block.TS {C : FuncId → Bool} {X : CallF} (hX : XOk C X) (k : Nat) : TblS Try.prog C X (intent_block.T k) := by
  refine tblOf_sound ?_
  intro e he
  exact absurd he List.not_mem_nil
set_option maxRecDepth 100000 in
theorem intent_block.eq (k : Nat) (a : RT [(.int .i64)]) (h : H) : (fun a h => intent_block.f k a h) a h = kfun Try.prog (intent_block.T k) (intent_block.an k) (RT [(.int .i64)] × H) Try.f59 (encL [(.int .i64)] a) h (fun vs h' => (decL [(.int .i64)] vs).bind fun x => some (x, h')) := by kernel_rfl
set_option maxRecDepth 100000 in
theorem intent_block.told {C : FuncId → Bool} {X : CallF} (hX : XOk C X) (k : Nat) : Den.Told Try.prog C X 59 [(.int .i64)] [(.int .i64)] (fun a h => intent_block.f k a h) :=
  told_of fun a h q e => fn_of (c := intent_block.body) (intent_block.TS hX k) Try.func59 (by kernel_rfl) (hX.no 59 _ h (by decide))
    (by
      have e : need (intent_block.an k) intent_block.body 1 = [] := by kernel_rfl
      rw [e]; intro q hq; cases hq)
    ((intent_block.eq k a h).symm.trans e)
/-! ### corbel/intent.number -/
noncomputable def intent_number.l0 (k : Nat) (n : Nat) : Sl → Int → Int → Int → H → Option ((Int) × H) :=
  Nat.rec (motive := fun _ => Sl → Int → Int → Int → H → Option ((Int) × H)) (fun _ _ _ _ _ => none) (fun _ ih x1 x2 x3 x4 h5 => cond (decide (x4 < x2))
      ((asP (ixs 1 x1.a x1.n x4)).bind fun p6 =>
    (asI .u8 (ldc h5 p6)).bind fun n7 =>
    (asI .i64 (intA .or .i64 (wrapA .i64 (x3 * 2 ^ 8)) (wrapA .i64 n7))).bind fun n8 =>
    ih x1 x2 n8 (wrapA .i64 (x4 + (1 : Int))) h5)
      (some (x3, h5))) n
theorem intent_number.l0_zero (k : Nat) (x1 : Sl) (x2 : Int) (x3 : Int) (x4 : Int) (h5 : H) : intent_number.l0 k 0 x1 x2 x3 x4 h5 = none := rfl
theorem intent_number.l0_succ (k n : Nat) (x1 : Sl) (x2 : Int) (x3 : Int) (x4 : Int) (h5 : H) : intent_number.l0 k (n + 1) x1 x2 x3 x4 h5 = (cond (decide (x4 < x2))
      ((asP (ixs 1 x1.a x1.n x4)).bind fun p6 =>
    (asI .u8 (ldc h5 p6)).bind fun n7 =>
    (asI .i64 (intA .or .i64 (wrapA .i64 (x3 * 2 ^ 8)) (wrapA .i64 n7))).bind fun n8 =>
    intent_number.l0 k n x1 x2 n8 (wrapA .i64 (x4 + (1 : Int))) h5)
      (some (x3, h5))) := rfl
noncomputable def intent_number.f (k : Nat) (a0 : Sl) (h : H) : Option ((Int) × H) :=
  (intent_number.l0 k k a0 (Int.ofNat a0.n) (0 : Int) (0 : Int) h).bind fun w9 =>
    some (w9.1, w9.2)
noncomputable def intent_number.T (k : Nat) : Tbl := tblOf []
noncomputable def intent_number.an (k : Nat) (p : Nat) : Option Ann := cond (Nat.beq p 58) (some (.pass [] (lrun [(6, .sl), (7, (.int .i64)), (3, (.int .i64)), (8, (.int .i64))] none [(3, (.int .i64))] 0 (fun a h => intent_number.l0 k k (a.1) (a.2.1) (a.2.2.1) (a.2.2.2) h))))
  (none)
noncomputable def intent_number.body : Code := (Try.f70.body).getD .skip
noncomputable def intent_number.c58 : Code := cat intent_number.body [1, 1, 0, 1, 0, 0]
set_option maxRecDepth 100000 in
theorem intent_number.TS {C : FuncId → Bool} {X : CallF} (hX : XOk C X) (k : Nat) : TblS Try.prog C X (intent_number.T k) := by
  refine tblOf_sound ?_
  intro e he
  exact absurd he List.not_mem_nil
set_option maxRecDepth 100000 in
theorem intent_number.l0_pass {C : FuncId → Bool} {X : CallF} (hX : XOk C X) (k n : Nat) : PassS Try.prog C X 19 (.loop intent_number.c58) (lrun [(6, .sl), (7, (.int .i64)), (3, (.int .i64)), (8, (.int .i64))] none [(3, (.int .i64))] 0 (fun a h => intent_number.l0 k n (a.1) (a.2.1) (a.2.2.1) (a.2.2.2) h)) :=
  loop_pass (ins := [(6, .sl), (7, (.int .i64)), (3, (.int .i64)), (8, (.int .i64))]) (rets := none) (outs := [(3, (.int .i64))]) (id := 0) (tbl := intent_number.T k) (an := intent_number.an k) (pb := 116) (intent_number.TS hX k) (fun n => (fun a h => intent_number.l0 k n (a.1) (a.2.1) (a.2.2.1) (a.2.2.2) h)) (fun a h => rfl) (fun n a h => by kernel_rfl)
    (by
      have e : need (intent_number.an k) intent_number.c58 116 = [] := by kernel_rfl
      rw [e]; intro q hq; cases hq) n
set_option maxRecDepth 100000 in
theorem intent_number.eq (k : Nat) (a : RT [.sl]) (h : H) : (fun a h => intent_number.f k a h) a h = kfun Try.prog (intent_number.T k) (intent_number.an k) (RT [(.int .i64)] × H) Try.f70 (encL [.sl] a) h (fun vs h' => (decL [(.int .i64)] vs).bind fun x => some (x, h')) := by kernel_rfl
set_option maxRecDepth 100000 in
theorem intent_number.told {C : FuncId → Bool} {X : CallF} (hX : XOk C X) (k : Nat) : Den.Told Try.prog C X 70 [.sl] [(.int .i64)] (fun a h => intent_number.f k a h) :=
  told_of fun a h q e => fn_of (c := intent_number.body) (intent_number.TS hX k) Try.func70 (by kernel_rfl) (hX.no 70 _ h (by decide))
    (by
      have e : need (intent_number.an k) intent_number.body 1 = [(Code.loop intent_number.c58, lrun [(6, .sl), (7, (.int .i64)), (3, (.int .i64)), (8, (.int .i64))] none [(3, (.int .i64))] 0 (fun a h => intent_number.l0 k k (a.1) (a.2.1) (a.2.2.1) (a.2.2.2) h))] := by kernel_rfl
      rw [e]; intro q hq
      rcases List.mem_cons.1 hq with rfl | hq
      · exact intent_number.l0_pass hX k k
      cases hq)
    ((intent_number.eq k a h).symm.trans e)
/-! ### corbel/intent.Right -/
noncomputable def intent_Right.f (k : Nat) (a0 : (Int × Int × Sl)) (h : H) : Option ((Bool) × H) :=
  (asI .i64 (ldc (newR h 75 3 [(Value.int .i64 a0.1), (Value.int .i64 a0.2.1), (Value.slice a0.2.2.a a0.2.2.n a0.2.2.c)]) (some ⟨h.next, 0, none⟩))).bind fun n1 =>
    (cond (decide (n1 ≥ (0 : Int))) ((asI .i64 (ldc (newR h 75 3 [(Value.int .i64 a0.1), (Value.int .i64 a0.2.1), (Value.slice a0.2.2.a a0.2.2.n a0.2.2.c)]) (some ⟨h.next, 0, none⟩))).bind fun n2 =>
    some (decide (n2 < (40 : Int)), (newR h 75 3 [(Value.int .i64 a0.1), (Value.int .i64 a0.2.1), (Value.slice a0.2.2.a a0.2.2.n a0.2.2.c)])))
      (some (false, (newR h 75 3 [(Value.int .i64 a0.1), (Value.int .i64 a0.2.1), (Value.slice a0.2.2.a a0.2.2.n a0.2.2.c)])))).bind fun g3 =>
    (cond g3.1 ((asI .i64 (ldc g3.2 (some ⟨h.next, 1, none⟩))).bind fun n4 =>
    some (decide (n4 ≥ (1 : Int)), g3.2))
      (some (false, g3.2))).bind fun g5 =>
    (cond g5.1 ((asI .i64 (ldc g5.2 (some ⟨h.next, 1, none⟩))).bind fun n6 =>
    some (decide (n6 ≤ (1099511627776 : Int)), g5.2))
      (some (false, g5.2))).bind fun g7 =>
    (cond g7.1 ((asS (ldc g7.2 (some ⟨h.next, 2, none⟩))).bind fun s8 =>
    some ((Int.ofNat s8.n) == (128 : Int), g7.2))
      (some (false, g7.2))).bind fun g9 =>
    some (g9.1, g9.2)
noncomputable def intent_Right.T (k : Nat) : Tbl := tblOf []
noncomputable def intent_Right.an (k : Nat) (p : Nat) : Option Ann := none
noncomputable def intent_Right.body : Code := (Try.f50.body).getD .skip
set_option maxRecDepth 100000 in
theorem intent_Right.TS {C : FuncId → Bool} {X : CallF} (hX : XOk C X) (k : Nat) : TblS Try.prog C X (intent_Right.T k) := by
  refine tblOf_sound ?_
  intro e he
  exact absurd he List.not_mem_nil
set_option maxRecDepth 100000 in
theorem intent_Right.eq (k : Nat) (a : RT [(.st [(.int .i64), (.int .i64), .sl])]) (h : H) : (fun a h => intent_Right.f k a h) a h = kfun Try.prog (intent_Right.T k) (intent_Right.an k) (RT [.bool] × H) Try.f50 (encL [(.st [(.int .i64), (.int .i64), .sl])] a) h (fun vs h' => (decL [.bool] vs).bind fun x => some (x, h')) := by kernel_rfl
set_option maxRecDepth 100000 in
theorem intent_Right.told {C : FuncId → Bool} {X : CallF} (hX : XOk C X) (k : Nat) : Den.Told Try.prog C X 50 [(.st [(.int .i64), (.int .i64), .sl])] [.bool] (fun a h => intent_Right.f k a h) :=
  told_of fun a h q e => fn_of (c := intent_Right.body) (intent_Right.TS hX k) Try.func50 (by kernel_rfl) (hX.no 50 _ h (by decide))
    (by
      have e : need (intent_Right.an k) intent_Right.body 1 = [] := by kernel_rfl
      rw [e]; intro q hq; cases hq)
    ((intent_Right.eq k a h).symm.trans e)
/-! ### corbel/intent.read -/
noncomputable def intent_read.f (k : Nat) (a0 : Sl) (h : H) : Option (((Bool × Int × Int × Int × Sl)) × H) :=
  (mark_Open.f k a0 (newR h 96 5 [(Value.bool false), (Value.int .i64 (0 : Int)), (Value.int .i64 (0 : Int)), (Value.int .i64 (0 : Int)), (Value.slice none 0 0)])).bind fun q1 =>
    (cond (q1.1.2.2 != (0 : Int)) (some (true, q1.2))
      (some (q1.1.1 != (2 : Int), q1.2))).bind fun g2 =>
    (cond g2.1 (some (true, g2.2))
      (some ((Int.ofNat q1.1.2.1.n) != (141 : Int), g2.2))).bind fun g3 =>
    cond g3.1
      ((stv 5 g3.2 (some ⟨h.next, 0, none⟩) [(Value.bool false), (Value.int .i64 (0 : Int)), (Value.int .i64 (0 : Int)), (Value.int .i64 (0 : Int)), (Value.slice none 0 0)]).bind fun q4 =>
    (asSt [.bool, (.int .i64), (.int .i64), (.int .i64), .sl] (lda 5 q4.2 (some ⟨h.next, 0, none⟩))).bind fun s5 =>
    some ((s5.1, s5.2.1, s5.2.2.1, s5.2.2.2.1, s5.2.2.2.2), q4.2))
      ((asP (ixs 1 q1.1.2.1.a q1.1.2.1.n (6 : Int))).bind fun p6 =>
    (asI .u8 (ldc g3.2 p6)).bind fun n7 =>
    (asS (subs 1 (Value.slice q1.1.2.1.a q1.1.2.1.n q1.1.2.1.c) (some (7 : Int)) (some (13 : Int)))).bind fun s8 =>
    (intent_number.f k s8 g3.2).bind fun q9 =>
    (asS (subs 1 (Value.slice q1.1.2.1.a q1.1.2.1.n q1.1.2.1.c) (some (13 : Int)) none)).bind fun s10 =>
    (slices_Clone_byte_byte.f k s10 q9.2).bind fun q11 =>
    (stv 3 (newR q11.2 75 3 [(Value.int .i64 (0 : Int)), (Value.int .i64 (0 : Int)), (Value.slice none 0 0)]) (some ⟨q11.2.next, 0, none⟩) [(Value.int .i64 (wrapA .i64 n7)), (Value.int .i64 q9.1), (Value.slice q11.1.a q11.1.n q11.1.c)]).bind fun q12 =>
    cond (same1 g3.2 q9.2 (some (Value.pointer p6)) && (same1 q9.2 q11.2 (some (Value.pointer p6)) && (true))) ((asS (subs 1 (Value.slice q1.1.2.1.a q1.1.2.1.n q1.1.2.1.c) none (some (6 : Int)))).bind fun s13 =>
    (intent_number.f k s13 q12.2).bind fun q14 =>
    (cond (decide (q14.1 > (0 : Int))) ((asSt [(.int .i64), (.int .i64), .sl] (lda 3 q14.2 (some ⟨q11.2.next, 0, none⟩))).bind fun s15 =>
    (intent_Right.f k (s15.1, s15.2.1, s15.2.2) q14.2).bind fun q16 =>
    some (q16.1, q16.2))
      (some (false, q14.2))).bind fun g17 =>
    cond g17.1
      ((asSt [(.int .i64), (.int .i64), .sl] (lda 3 g17.2 (some ⟨q11.2.next, 0, none⟩))).bind fun s18 =>
    (stv 5 g17.2 (some ⟨h.next, 0, none⟩) [(Value.bool true), (Value.int .i64 q14.1), (Value.int .i64 s18.1), (Value.int .i64 s18.2.1), (Value.slice s18.2.2.a s18.2.2.n s18.2.2.c)]).bind fun q19 =>
    (asSt [.bool, (.int .i64), (.int .i64), (.int .i64), .sl] (lda 5 q19.2 (some ⟨h.next, 0, none⟩))).bind fun s20 =>
    some ((s20.1, s20.2.1, s20.2.2.1, s20.2.2.2.1, s20.2.2.2.2), q19.2))
      ((stv 5 g17.2 (some ⟨h.next, 0, none⟩) [(Value.bool false), (Value.int .i64 (0 : Int)), (Value.int .i64 (0 : Int)), (Value.int .i64 (0 : Int)), (Value.slice none 0 0)]).bind fun q21 =>
    (asSt [.bool, (.int .i64), (.int .i64), (.int .i64), .sl] (lda 5 q21.2 (some ⟨h.next, 0, none⟩))).bind fun s22 =>
    some ((s22.1, s22.2.1, s22.2.2.1, s22.2.2.2.1, s22.2.2.2.2), q21.2))) none)
noncomputable def intent_read.T (k : Nat) : Tbl := tblOf [⟨16, anyArgs, wr [.sl] [(.int .i64), .sl, (.int .i64)] (fun a h => mark_Open.f k a h)⟩,
  ⟨70, anyArgs, wr [.sl] [(.int .i64)] (fun a h => intent_number.f k a h)⟩,
  ⟨51, anyArgs, wr [.sl] [.sl] (fun a h => slices_Clone_byte_byte.f k a h)⟩,
  ⟨50, anyArgs, wr [(.st [(.int .i64), (.int .i64), .sl])] [.bool] (fun a h => intent_Right.f k a h)⟩]
noncomputable def intent_read.an (k : Nat) (p : Nat) : Option Ann := none
noncomputable def intent_read.body : Code := (Try.f60.body).getD .skip
set_option maxRecDepth 100000 in
theorem intent_read.TS {C : FuncId → Bool} {X : CallF} (hX : XOk C X) (k : Nat) : TblS Try.prog C X (intent_read.T k) := by
  refine tblOf_sound ?_
  intro e he
  rcases List.mem_cons.1 he with rfl | he
  · exact wr_told (mark_Open.told hX k)
  rcases List.mem_cons.1 he with rfl | he
  · exact wr_told (intent_number.told hX k)
  rcases List.mem_cons.1 he with rfl | he
  · exact wr_told (slices_Clone_byte_byte.told hX k)
  rcases List.mem_cons.1 he with rfl | he
  · exact wr_told (intent_Right.told hX k)
  exact absurd he List.not_mem_nil
set_option maxRecDepth 100000 in
theorem intent_read.eq (k : Nat) (a : RT [.sl]) (h : H) : (fun a h => intent_read.f k a h) a h = kfun Try.prog (intent_read.T k) (intent_read.an k) (RT [(.st [.bool, (.int .i64), (.int .i64), (.int .i64), .sl])] × H) Try.f60 (encL [.sl] a) h (fun vs h' => (decL [(.st [.bool, (.int .i64), (.int .i64), (.int .i64), .sl])] vs).bind fun x => some (x, h')) := by kernel_rfl
set_option maxRecDepth 100000 in
theorem intent_read.told {C : FuncId → Bool} {X : CallF} (hX : XOk C X) (k : Nat) : Den.Told Try.prog C X 60 [.sl] [(.st [.bool, (.int .i64), (.int .i64), (.int .i64), .sl])] (fun a h => intent_read.f k a h) :=
  told_of fun a h q e => fn_of (c := intent_read.body) (intent_read.TS hX k) Try.func60 (by kernel_rfl) (hX.no 60 _ h (by decide))
    (by
      have e : need (intent_read.an k) intent_read.body 1 = [] := by kernel_rfl
      rw [e]; intro q hq; cases hq)
    ((intent_read.eq k a h).symm.trans e)
/-! ### corbel/intent.Open -/
noncomputable def intent_Open.l0 (k : Nat) (n : Nat) : (Option Addr) → (Option Addr) → Int → H → Option ((Unit) × H) :=
  Nat.rec (motive := fun _ => (Option Addr) → (Option Addr) → Int → H → Option ((Unit) × H)) (fun _ _ _ _ => none) (fun _ ih x4 x5 x6 h7 => cond (decide (x6 < (16 : Int)))
      ((intent_block.f k x6 h7).bind fun q8 =>
    (platter_Platter_Read.f k x4 q8.1 q8.2).bind fun q9 =>
    (intent_read.f k q9.1.1 q9.2).bind fun q10 =>
    (asP (nilA (Value.pointer x5))).bind fun p11 =>
    (asP (fadd 1 p11)).bind fun p12 =>
    (asP (ixs 5 p12 16 x6)).bind fun p13 =>
    (stv 5 q10.2 p13 [(Value.bool q10.1.1), (Value.int .i64 q10.1.2.1), (Value.int .i64 q10.1.2.2.1), (Value.int .i64 q10.1.2.2.2.1), (Value.slice q10.1.2.2.2.2.a q10.1.2.2.2.2.n q10.1.2.2.2.2.c)]).bind fun q14 =>
    (asP (nilA (Value.pointer x5))).bind fun p15 =>
    (asP (fadd 81 p15)).bind fun p16 =>
    (asI .i64 (ldc q14.2 p16)).bind fun n17 =>
    (asP (nilA (Value.pointer x5))).bind fun p18 =>
    (asP (fadd 1 p18)).bind fun p19 =>
    (asP (ixs 5 p19 16 x6)).bind fun p20 =>
    (asP (fadd 1 p20)).bind fun p21 =>
    (asI .i64 (ldc q14.2 p21)).bind fun n22 =>
    (asP (nilA (Value.pointer x5))).bind fun p23 =>
    (asP (fadd 81 p23)).bind fun p24 =>
    (stv 1 q14.2 p24 [(Value.int .i64 (cond (decide ((wrapA .i64 (n22 + (1 : Int))) > n17)) (wrapA .i64 (n22 + (1 : Int))) n17))]).bind fun q25 =>
    ih x4 x5 (wrapA .i64 (x6 + (1 : Int))) q25.2)
      (some ((), h7))) n
theorem intent_Open.l0_zero (k : Nat) (x4 : Option Addr) (x5 : Option Addr) (x6 : Int) (h7 : H) : intent_Open.l0 k 0 x4 x5 x6 h7 = none := rfl
theorem intent_Open.l0_succ (k n : Nat) (x4 : Option Addr) (x5 : Option Addr) (x6 : Int) (h7 : H) : intent_Open.l0 k (n + 1) x4 x5 x6 h7 = (cond (decide (x6 < (16 : Int)))
      ((intent_block.f k x6 h7).bind fun q8 =>
    (platter_Platter_Read.f k x4 q8.1 q8.2).bind fun q9 =>
    (intent_read.f k q9.1.1 q9.2).bind fun q10 =>
    (asP (nilA (Value.pointer x5))).bind fun p11 =>
    (asP (fadd 1 p11)).bind fun p12 =>
    (asP (ixs 5 p12 16 x6)).bind fun p13 =>
    (stv 5 q10.2 p13 [(Value.bool q10.1.1), (Value.int .i64 q10.1.2.1), (Value.int .i64 q10.1.2.2.1), (Value.int .i64 q10.1.2.2.2.1), (Value.slice q10.1.2.2.2.2.a q10.1.2.2.2.2.n q10.1.2.2.2.2.c)]).bind fun q14 =>
    (asP (nilA (Value.pointer x5))).bind fun p15 =>
    (asP (fadd 81 p15)).bind fun p16 =>
    (asI .i64 (ldc q14.2 p16)).bind fun n17 =>
    (asP (nilA (Value.pointer x5))).bind fun p18 =>
    (asP (fadd 1 p18)).bind fun p19 =>
    (asP (ixs 5 p19 16 x6)).bind fun p20 =>
    (asP (fadd 1 p20)).bind fun p21 =>
    (asI .i64 (ldc q14.2 p21)).bind fun n22 =>
    (asP (nilA (Value.pointer x5))).bind fun p23 =>
    (asP (fadd 81 p23)).bind fun p24 =>
    (stv 1 q14.2 p24 [(Value.int .i64 (cond (decide ((wrapA .i64 (n22 + (1 : Int))) > n17)) (wrapA .i64 (n22 + (1 : Int))) n17))]).bind fun q25 =>
    intent_Open.l0 k n x4 x5 (wrapA .i64 (x6 + (1 : Int))) q25.2)
      (some ((), h7))) := rfl
noncomputable def intent_Open.f (k : Nat) (a0 : Option Addr) (h : H) : Option ((Option Addr × Int) × H) :=
  (asB (binO1 Try.prog .eql 42 (Value.pointer a0) (Value.pointer none))).bind fun b1 =>
    (cond b1 (some (true, h))
      ((platter_Platter_Blocks.f k a0 h).bind fun q2 =>
    some (q2.1 != (96 : Int), q2.2))).bind fun g3 =>
    cond g3.1
      (some ((none, (1 : Int)), g3.2))
      ((intent_Open.l0 k k a0 (some ⟨g3.2.next, 0, none⟩) (0 : Int) (newR g3.2 99 82 [(Value.pointer a0), (Value.bool false), (Value.int .i64 (0 : Int)), (Value.int .i64 (0 : Int)), (Value.int .i64 (0 : Int)), (Value.slice none 0 0), (Value.bool false), (Value.int .i64 (0 : Int)), (Value.int .i64 (0 : Int)), (Value.int .i64 (0 : Int)), (Value.slice none 0 0), (Value.bool false), (Value.int .i64 (0 : Int)), (Value.int .i64 (0 : Int)), (Value.int .i64 (0 : Int)), (Value.slice none 0 0), (Value.bool false), (Value.int .i64 (0 : Int)), (Value.int .i64 (0 : Int)), (Value.int .i64 (0 : Int)), (Value.slice none 0 0), (Value.bool false), (Value.int .i64 (0 : Int)), (Value.int .i64 (0 : Int)), (Value.int .i64 (0 : Int)), (Value.slice none 0 0), (Value.bool false), (Value.int .i64 (0 : Int)), (Value.int .i64 (0 : Int)), (Value.int .i64 (0 : Int)), (Value.slice none 0 0), (Value.bool false), (Value.int .i64 (0 : Int)), (Value.int .i64 (0 : Int)), (Value.int .i64 (0 : Int)), (Value.slice none 0 0), (Value.bool false), (Value.int .i64 (0 : Int)), (Value.int .i64 (0 : Int)), (Value.int .i64 (0 : Int)), (Value.slice none 0 0), (Value.bool false), (Value.int .i64 (0 : Int)), (Value.int .i64 (0 : Int)), (Value.int .i64 (0 : Int)), (Value.slice none 0 0), (Value.bool false), (Value.int .i64 (0 : Int)), (Value.int .i64 (0 : Int)), (Value.int .i64 (0 : Int)), (Value.slice none 0 0), (Value.bool false), (Value.int .i64 (0 : Int)), (Value.int .i64 (0 : Int)), (Value.int .i64 (0 : Int)), (Value.slice none 0 0), (Value.bool false), (Value.int .i64 (0 : Int)), (Value.int .i64 (0 : Int)), (Value.int .i64 (0 : Int)), (Value.slice none 0 0), (Value.bool false), (Value.int .i64 (0 : Int)), (Value.int .i64 (0 : Int)), (Value.int .i64 (0 : Int)), (Value.slice none 0 0), (Value.bool false), (Value.int .i64 (0 : Int)), (Value.int .i64 (0 : Int)), (Value.int .i64 (0 : Int)), (Value.slice none 0 0), (Value.bool false), (Value.int .i64 (0 : Int)), (Value.int .i64 (0 : Int)), (Value.int .i64 (0 : Int)), (Value.slice none 0 0), (Value.bool false), (Value.int .i64 (0 : Int)), (Value.int .i64 (0 : Int)), (Value.int .i64 (0 : Int)), (Value.slice none 0 0), (Value.int .i64 (1 : Int))])).bind fun w26 =>
    some (((some ⟨g3.2.next, 0, none⟩), (0 : Int)), w26.2))
noncomputable def intent_Open.T (k : Nat) : Tbl := tblOf [⟨35, anyArgs, wr [.ptr] [(.int .i64)] (fun a h => platter_Platter_Blocks.f k a h)⟩,
  ⟨59, anyArgs, wr [(.int .i64)] [(.int .i64)] (fun a h => intent_block.f k a h)⟩,
  ⟨30, anyArgs, wr [.ptr, (.int .i64)] [.sl, .bool] (fun a h => platter_Platter_Read.f k (a.1) (a.2) h)⟩,
  ⟨60, anyArgs, wr [.sl] [(.st [.bool, (.int .i64), (.int .i64), (.int .i64), .sl])] (fun a h => intent_read.f k a h)⟩]
noncomputable def intent_Open.an (k : Nat) (p : Nat) : Option Ann := cond (Nat.beq p 122) (some (.pass [4] (lrun [(0, .ptr), (4, .ptr), (18, (.int .i64))] none [] 0 (fun a h => intent_Open.l0 k k (a.1) (a.2.1) (a.2.2) h))))
  (none)
noncomputable def intent_Open.body : Code := (Try.f42.body).getD .skip
noncomputable def intent_Open.c122 : Code := cat intent_Open.body [1, 1, 1, 0, 1, 0, 0]
set_option maxRecDepth 100000 in
theorem intent_Open.TS {C : FuncId → Bool} {X : CallF} (hX : XOk C X) (k : Nat) : TblS Try.prog C X (intent_Open.T k) := by
  refine tblOf_sound ?_
  intro e he
  rcases List.mem_cons.1 he with rfl | he
  · exact wr_told (platter_Platter_Blocks.told hX k)
  rcases List.mem_cons.1 he with rfl | he
  · exact wr_told (intent_block.told hX k)
  rcases List.mem_cons.1 he with rfl | he
  · exact wr_told (platter_Platter_Read.told hX k)
  rcases List.mem_cons.1 he with rfl | he
  · exact wr_told (intent_read.told hX k)
  exact absurd he List.not_mem_nil
set_option maxRecDepth 100000 in
theorem intent_Open.l0_pass {C : FuncId → Bool} {X : CallF} (hX : XOk C X) (k n : Nat) : PassS Try.prog C X 53 (.loop intent_Open.c122) (lrun [(0, .ptr), (4, .ptr), (18, (.int .i64))] none [] 0 (fun a h => intent_Open.l0 k n (a.1) (a.2.1) (a.2.2) h)) :=
  loop_pass (ins := [(0, .ptr), (4, .ptr), (18, (.int .i64))]) (rets := none) (outs := []) (id := 0) (tbl := intent_Open.T k) (an := intent_Open.an k) (pb := 244) (intent_Open.TS hX k) (fun n => (fun a h => intent_Open.l0 k n (a.1) (a.2.1) (a.2.2) h)) (fun a h => rfl) (fun n a h => by kernel_rfl)
    (by
      have e : need (intent_Open.an k) intent_Open.c122 244 = [] := by kernel_rfl
      rw [e]; intro q hq; cases hq) n
set_option maxRecDepth 100000 in
theorem intent_Open.eq (k : Nat) (a : RT [.ptr]) (h : H) : (fun a h => intent_Open.f k a h) a h = kfun Try.prog (intent_Open.T k) (intent_Open.an k) (RT [.ptr, (.int .i64)] × H) Try.f42 (encL [.ptr] a) h (fun vs h' => (decL [.ptr, (.int .i64)] vs).bind fun x => some (x, h')) := by kernel_rfl
set_option maxRecDepth 100000 in
theorem intent_Open.told {C : FuncId → Bool} {X : CallF} (hX : XOk C X) (k : Nat) : Den.Told Try.prog C X 42 [.ptr] [.ptr, (.int .i64)] (fun a h => intent_Open.f k a h) :=
  told_of fun a h q e => fn_of (c := intent_Open.body) (intent_Open.TS hX k) Try.func42 (by kernel_rfl) (hX.no 42 _ h (by decide))
    (by
      have e : need (intent_Open.an k) intent_Open.body 1 = [(Code.loop intent_Open.c122, lrun [(0, .ptr), (4, .ptr), (18, (.int .i64))] none [] 0 (fun a h => intent_Open.l0 k k (a.1) (a.2.1) (a.2.2) h))] := by kernel_rfl
      rw [e]; intro q hq
      rcases List.mem_cons.1 hq with rfl | hq
      · exact intent_Open.l0_pass hX k k
      cases hq)
    ((intent_Open.eq k a h).symm.trans e)
/-! ### corbel/intent.Same -/
noncomputable def intent_Same.f (k : Nat) (a0 : (Int × Int × Sl)) (a1 : (Int × Int × Sl)) (h : H) : Option ((Bool) × H) :=
  (asI .i64 (ldc (newR (newR h 75 3 [(Value.int .i64 a0.1), (Value.int .i64 a0.2.1), (Value.slice a0.2.2.a a0.2.2.n a0.2.2.c)]) 75 3 [(Value.int .i64 a1.1), (Value.int .i64 a1.2.1), (Value.slice a1.2.2.a a1.2.2.n a1.2.2.c)]) (some ⟨h.next, 0, none⟩))).bind fun n1 =>
    (asI .i64 (ldc (newR (newR h 75 3 [(Value.int .i64 a0.1), (Value.int .i64 a0.2.1), (Value.slice a0.2.2.a a0.2.2.n a0.2.2.c)]) 75 3 [(Value.int .i64 a1.1), (Value.int .i64 a1.2.1), (Value.slice a1.2.2.a a1.2.2.n a1.2.2.c)]) (some ⟨(newR h 75 3 [(Value.int .i64 a0.1), (Value.int .i64 a0.2.1), (Value.slice a0.2.2.a a0.2.2.n a0.2.2.c)]).next, 0, none⟩))).bind fun n2 =>
    (cond (n1 == n2) ((asI .i64 (ldc (newR (newR h 75 3 [(Value.int .i64 a0.1), (Value.int .i64 a0.2.1), (Value.slice a0.2.2.a a0.2.2.n a0.2.2.c)]) 75 3 [(Value.int .i64 a1.1), (Value.int .i64 a1.2.1), (Value.slice a1.2.2.a a1.2.2.n a1.2.2.c)]) (some ⟨h.next, 1, none⟩))).bind fun n3 =>
    (asI .i64 (ldc (newR (newR h 75 3 [(Value.int .i64 a0.1), (Value.int .i64 a0.2.1), (Value.slice a0.2.2.a a0.2.2.n a0.2.2.c)]) 75 3 [(Value.int .i64 a1.1), (Value.int .i64 a1.2.1), (Value.slice a1.2.2.a a1.2.2.n a1.2.2.c)]) (some ⟨(newR h 75 3 [(Value.int .i64 a0.1), (Value.int .i64 a0.2.1), (Value.slice a0.2.2.a a0.2.2.n a0.2.2.c)]).next, 1, none⟩))).bind fun n4 =>
    some (n3 == n4, (newR (newR h 75 3 [(Value.int .i64 a0.1), (Value.int .i64 a0.2.1), (Value.slice a0.2.2.a a0.2.2.n a0.2.2.c)]) 75 3 [(Value.int .i64 a1.1), (Value.int .i64 a1.2.1), (Value.slice a1.2.2.a a1.2.2.n a1.2.2.c)])))
      (some (false, (newR (newR h 75 3 [(Value.int .i64 a0.1), (Value.int .i64 a0.2.1), (Value.slice a0.2.2.a a0.2.2.n a0.2.2.c)]) 75 3 [(Value.int .i64 a1.1), (Value.int .i64 a1.2.1), (Value.slice a1.2.2.a a1.2.2.n a1.2.2.c)])))).bind fun g5 =>
    (cond g5.1 ((asS (ldc g5.2 (some ⟨h.next, 2, none⟩))).bind fun s6 =>
    (asS (ldc g5.2 (some ⟨(newR h 75 3 [(Value.int .i64 a0.1), (Value.int .i64 a0.2.1), (Value.slice a0.2.2.a a0.2.2.n a0.2.2.c)]).next, 2, none⟩))).bind fun s7 =>
    (slices_Equal_byte_byte.f k s6 s7 g5.2).bind fun q8 =>
    some (q8.1, q8.2))
      (some (false, g5.2))).bind fun g9 =>
    some (g9.1, g9.2)
noncomputable def intent_Same.T (k : Nat) : Tbl := tblOf [⟨52, anyArgs, wr [.sl, .sl] [.bool] (fun a h => slices_Equal_byte_byte.f k (a.1) (a.2) h)⟩]
noncomputable def intent_Same.an (k : Nat) (p : Nat) : Option Ann := none
noncomputable def intent_Same.body : Code := (Try.f48.body).getD .skip
set_option maxRecDepth 100000 in
theorem intent_Same.TS {C : FuncId → Bool} {X : CallF} (hX : XOk C X) (k : Nat) : TblS Try.prog C X (intent_Same.T k) := by
  refine tblOf_sound ?_
  intro e he
  rcases List.mem_cons.1 he with rfl | he
  · exact wr_told (slices_Equal_byte_byte.told hX k)
  exact absurd he List.not_mem_nil
set_option maxRecDepth 100000 in
theorem intent_Same.eq (k : Nat) (a : RT [(.st [(.int .i64), (.int .i64), .sl]), (.st [(.int .i64), (.int .i64), .sl])]) (h : H) : (fun a h => intent_Same.f k (a.1) (a.2) h) a h = kfun Try.prog (intent_Same.T k) (intent_Same.an k) (RT [.bool] × H) Try.f48 (encL [(.st [(.int .i64), (.int .i64), .sl]), (.st [(.int .i64), (.int .i64), .sl])] a) h (fun vs h' => (decL [.bool] vs).bind fun x => some (x, h')) := by kernel_rfl
set_option maxRecDepth 100000 in
theorem intent_Same.told {C : FuncId → Bool} {X : CallF} (hX : XOk C X) (k : Nat) : Den.Told Try.prog C X 48 [(.st [(.int .i64), (.int .i64), .sl]), (.st [(.int .i64), (.int .i64), .sl])] [.bool] (fun a h => intent_Same.f k (a.1) (a.2) h) :=
  told_of fun a h q e => fn_of (c := intent_Same.body) (intent_Same.TS hX k) Try.func48 (by kernel_rfl) (hX.no 48 _ h (by decide))
    (by
      have e : need (intent_Same.an k) intent_Same.body 1 = [] := by kernel_rfl
      rw [e]; intro q hq; cases hq)
    ((intent_Same.eq k a h).symm.trans e)
/-! ### (*corbel/intent.Ring).Log$1 -/
noncomputable def intent_Ring_Log_1.f (k : Nat) (a0 : (Bool × Int × Int × Int × Sl)) (a1 : Option Addr) (h : H) : Option ((Bool) × H) :=
  (asB (ldc (newR h 96 5 [(Value.bool a0.1), (Value.int .i64 a0.2.1), (Value.int .i64 a0.2.2.1), (Value.int .i64 a0.2.2.2.1), (Value.slice a0.2.2.2.2.a a0.2.2.2.2.n a0.2.2.2.2.c)]) (some ⟨h.next, 0, none⟩))).bind fun b1 =>
    (cond b1 ((asSt [(.int .i64), (.int .i64), .sl] (lda 3 (newR h 96 5 [(Value.bool a0.1), (Value.int .i64 a0.2.1), (Value.int .i64 a0.2.2.1), (Value.int .i64 a0.2.2.2.1), (Value.slice a0.2.2.2.2.a a0.2.2.2.2.n a0.2.2.2.2.c)]) (some ⟨h.next, 2, none⟩))).bind fun s2 =>
    (asSt [(.int .i64), (.int .i64), .sl] (lda 3 (newR h 96 5 [(Value.bool a0.1), (Value.int .i64 a0.2.1), (Value.int .i64 a0.2.2.1), (Value.int .i64 a0.2.2.2.1), (Value.slice a0.2.2.2.2.a a0.2.2.2.2.n a0.2.2.2.2.c)]) a1)).bind fun s3 =>
    (intent_Same.f k (s2.1, s2.2.1, s2.2.2) (s3.1, s3.2.1, s3.2.2) (newR h 96 5 [(Value.bool a0.1), (Value.int .i64 a0.2.1), (Value.int .i64 a0.2.2.1), (Value.int .i64 a0.2.2.2.1), (Value.slice a0.2.2.2.2.a a0.2.2.2.2.n a0.2.2.2.2.c)])).bind fun q4 =>
    some (q4.1, q4.2))
      (some (false, (newR h 96 5 [(Value.bool a0.1), (Value.int .i64 a0.2.1), (Value.int .i64 a0.2.2.1), (Value.int .i64 a0.2.2.2.1), (Value.slice a0.2.2.2.2.a a0.2.2.2.2.n a0.2.2.2.2.c)])))).bind fun g5 =>
    some (g5.1, g5.2)
noncomputable def intent_Ring_Log_1.T (k : Nat) : Tbl := tblOf [⟨48, anyArgs, wr [(.st [(.int .i64), (.int .i64), .sl]), (.st [(.int .i64), (.int .i64), .sl])] [.bool] (fun a h => intent_Same.f k (a.1) (a.2) h)⟩]
noncomputable def intent_Ring_Log_1.an (k : Nat) (p : Nat) : Option Ann := none
noncomputable def intent_Ring_Log_1.body : Code := (Try.f62.body).getD .skip
set_option maxRecDepth 100000 in
theorem intent_Ring_Log_1.TS {C : FuncId → Bool} {X : CallF} (hX : XOk C X) (k : Nat) : TblS Try.prog C X (intent_Ring_Log_1.T k) := by
  refine tblOf_sound ?_
  intro e he
  rcases List.mem_cons.1 he with rfl | he
  · exact wr_told (intent_Same.told hX k)
  exact absurd he List.not_mem_nil
set_option maxRecDepth 100000 in
theorem intent_Ring_Log_1.eq (k : Nat) (a : RT [(.st [.bool, (.int .i64), (.int .i64), (.int .i64), .sl]), .ptr]) (h : H) : (fun a h => intent_Ring_Log_1.f k (a.1) (a.2) h) a h = kfun Try.prog (intent_Ring_Log_1.T k) (intent_Ring_Log_1.an k) (RT [.bool] × H) Try.f62 (encL [(.st [.bool, (.int .i64), (.int .i64), (.int .i64), .sl]), .ptr] a) h (fun vs h' => (decL [.bool] vs).bind fun x => some (x, h')) := by kernel_rfl
set_option maxRecDepth 100000 in
theorem intent_Ring_Log_1.told {C : FuncId → Bool} {X : CallF} (hX : XOk C X) (k : Nat) : Den.Told Try.prog C X 62 [(.st [.bool, (.int .i64), (.int .i64), (.int .i64), .sl]), .ptr] [.bool] (fun a h => intent_Ring_Log_1.f k (a.1) (a.2) h) :=
  told_of fun a h q e => fn_of (c := intent_Ring_Log_1.body) (intent_Ring_Log_1.TS hX k) Try.func62 (by kernel_rfl) (hX.no 62 _ h (by decide))
    (by
      have e : need (intent_Ring_Log_1.an k) intent_Ring_Log_1.body 1 = [] := by kernel_rfl
      rw [e]; intro q hq; cases hq)
    ((intent_Ring_Log_1.eq k a h).symm.trans e)
/-! ### slices.IndexFunc[[]corbel/intent.slot,corbel/intent.slot] -/
noncomputable def slices_IndexFunc_intent_slot_intent_slot_intent_Ring_Log_1.l0 (k : Nat) (n : Nat) : Sl → (Option Addr) → Int → Int → H → Option (((Int) ⊕ (Unit)) × H) :=
  Nat.rec (motive := fun _ => Sl → (Option Addr) → Int → Int → H → Option (((Int) ⊕ (Unit)) × H)) (fun _ _ _ _ _ => none) (fun _ ih x1 x2 x3 x4 h5 => cond (decide (x4 < x3))
      ((asP (ixs 5 x1.a x1.n x4)).bind fun p6 =>
    (asSt [.bool, (.int .i64), (.int .i64), (.int .i64), .sl] (lda 5 h5 p6)).bind fun s7 =>
    (intent_Ring_Log_1.f k (s7.1, s7.2.1, s7.2.2.1, s7.2.2.2.1, s7.2.2.2.2) x2 h5).bind fun q8 =>
    cond q8.1
      (some (Sum.inl x4, q8.2))
      (ih x1 (x2) x3 (wrapA .i64 (x4 + (1 : Int))) q8.2))
      (some (Sum.inr (), h5))) n
theorem slices_IndexFunc_intent_slot_intent_slot_intent_Ring_Log_1.l0_zero (k : Nat) (x1 : Sl) (x2 : Option Addr) (x3 : Int) (x4 : Int) (h5 : H) : slices_IndexFunc_intent_slot_intent_slot_intent_Ring_Log_1.l0 k 0 x1 x2 x3 x4 h5 = none := rfl
theorem slices_IndexFunc_intent_slot_intent_slot_intent_Ring_Log_1.l0_succ (k n : Nat) (x1 : Sl) (x2 : Option Addr) (x3 : Int) (x4 : Int) (h5 : H) : slices_IndexFunc_intent_slot_intent_slot_intent_Ring_Log_1.l0 k (n + 1) x1 x2 x3 x4 h5 = (cond (decide (x4 < x3))
      ((asP (ixs 5 x1.a x1.n x4)).bind fun p6 =>
    (asSt [.bool, (.int .i64), (.int .i64), (.int .i64), .sl] (lda 5 h5 p6)).bind fun s7 =>
    (intent_Ring_Log_1.f k (s7.1, s7.2.1, s7.2.2.1, s7.2.2.2.1, s7.2.2.2.2) x2 h5).bind fun q8 =>
    cond q8.1
      (some (Sum.inl x4, q8.2))
      (slices_IndexFunc_intent_slot_intent_slot_intent_Ring_Log_1.l0 k n x1 (x2) x3 (wrapA .i64 (x4 + (1 : Int))) q8.2))
      (some (Sum.inr (), h5))) := rfl
noncomputable def slices_IndexFunc_intent_slot_intent_slot_intent_Ring_Log_1.f (k : Nat) (a0 : Sl) (a1 : Option Addr) (h : H) : Option ((Int) × H) :=
  (slices_IndexFunc_intent_slot_intent_slot_intent_Ring_Log_1.l0 k k a0 (a1) (Int.ofNat a0.n) (0 : Int) h).bind fun w9 =>
    match w9.1 with
    | .inl r10 => some (r10, w9.2)
    | .inr o11 => some ((-1 : Int), w9.2)
noncomputable def slices_IndexFunc_intent_slot_intent_slot_intent_Ring_Log_1.T (k : Nat) : Tbl := tblOf [⟨62, anyArgs, wr [(.st [.bool, (.int .i64), (.int .i64), (.int .i64), .sl]), .ptr] [.bool] (fun a h => intent_Ring_Log_1.f k (a.1) (a.2) h)⟩]
noncomputable def slices_IndexFunc_intent_slot_intent_slot_intent_Ring_Log_1.an (k : Nat) (p : Nat) : Option Ann := cond (Nat.beq p 26) (some (.pass [] (lrun [(0, .sl), (1, (.fn 62 1)), (7, (.int .i64)), (8, (.int .i64))] (some [(4, (.int .i64))]) [] 0 (fun a h => slices_IndexFunc_intent_slot_intent_slot_intent_Ring_Log_1.l0 k k (a.1) (a.2.1) (a.2.2.1) (a.2.2.2) h))))
  (none)
noncomputable def slices_IndexFunc_intent_slot_intent_slot_intent_Ring_Log_1.body : Code := (Try.f63.body).getD .skip
noncomputable def slices_IndexFunc_intent_slot_intent_slot_intent_Ring_Log_1.c26 : Code := cat slices_IndexFunc_intent_slot_intent_slot_intent_Ring_Log_1.body [1, 0, 1, 0, 0]
set_option maxRecDepth 100000 in
theorem slices_IndexFunc_intent_slot_intent_slot_intent_Ring_Log_1.TS {C : FuncId → Bool} {X : CallF} (hX : XOk C X) (k : Nat) : TblS Try.prog C X (slices_IndexFunc_intent_slot_intent_slot_intent_Ring_Log_1.T k) := by
  refine tblOf_sound ?_
  intro e he
  rcases List.mem_cons.1 he with rfl | he
  · exact wr_told (intent_Ring_Log_1.told hX k)
  exact absurd he List.not_mem_nil
set_option maxRecDepth 100000 in
theorem slices_IndexFunc_intent_slot_intent_slot_intent_Ring_Log_1.l0_pass {C : FuncId → Bool} {X : CallF} (hX : XOk C X) (k n : Nat) : PassS Try.prog C X 19 (.loop slices_IndexFunc_intent_slot_intent_slot_intent_Ring_Log_1.c26) (lrun [(0, .sl), (1, (.fn 62 1)), (7, (.int .i64)), (8, (.int .i64))] (some [(4, (.int .i64))]) [] 0 (fun a h => slices_IndexFunc_intent_slot_intent_slot_intent_Ring_Log_1.l0 k n (a.1) (a.2.1) (a.2.2.1) (a.2.2.2) h)) :=
  loop_pass (ins := [(0, .sl), (1, (.fn 62 1)), (7, (.int .i64)), (8, (.int .i64))]) (rets := (some [(4, (.int .i64))])) (outs := []) (id := 0) (tbl := slices_IndexFunc_intent_slot_intent_slot_intent_Ring_Log_1.T k) (an := slices_IndexFunc_intent_slot_intent_slot_intent_Ring_Log_1.an k) (pb := 52) (slices_IndexFunc_intent_slot_intent_slot_intent_Ring_Log_1.TS hX k) (fun n => (fun a h => slices_IndexFunc_intent_slot_intent_slot_intent_Ring_Log_1.l0 k n (a.1) (a.2.1) (a.2.2.1) (a.2.2.2) h)) (fun a h => rfl) (fun n a h => by kernel_rfl)
    (by
      have e : need (slices_IndexFunc_intent_slot_intent_slot_intent_Ring_Log_1.an k) slices_IndexFunc_intent_slot_intent_slot_intent_Ring_Log_1.c26 52 = [] := by kernel_rfl
      rw [e]; intro q hq; cases hq) n
set_option maxRecDepth 100000 in
theorem slices_IndexFunc_intent_slot_intent_slot_intent_Ring_Log_1.eq (k : Nat) (a : RT [.sl, (.fn 62 1)]) (h : H) : (fun a h => slices_IndexFunc_intent_slot_intent_slot_intent_Ring_Log_1.f k (a.1) (a.2) h) a h = kfun Try.prog (slices_IndexFunc_intent_slot_intent_slot_intent_Ring_Log_1.T k) (slices_IndexFunc_intent_slot_intent_slot_intent_Ring_Log_1.an k) (RT [(.int .i64)] × H) Try.f63 (encL [.sl, (.fn 62 1)] a) h (fun vs h' => (decL [(.int .i64)] vs).bind fun x => some (x, h')) := by kernel_rfl
set_option maxRecDepth 100000 in
theorem slices_IndexFunc_intent_slot_intent_slot_intent_Ring_Log_1.told {C : FuncId → Bool} {X : CallF} (hX : XOk C X) (k : Nat) : Den.Told Try.prog C X 63 [.sl, (.fn 62 1)] [(.int .i64)] (fun a h => slices_IndexFunc_intent_slot_intent_slot_intent_Ring_Log_1.f k (a.1) (a.2) h) :=
  told_of fun a h q e => fn_of (c := slices_IndexFunc_intent_slot_intent_slot_intent_Ring_Log_1.body) (slices_IndexFunc_intent_slot_intent_slot_intent_Ring_Log_1.TS hX k) Try.func63 (by kernel_rfl) (hX.no 63 _ h (by decide))
    (by
      have e : need (slices_IndexFunc_intent_slot_intent_slot_intent_Ring_Log_1.an k) slices_IndexFunc_intent_slot_intent_slot_intent_Ring_Log_1.body 1 = [(Code.loop slices_IndexFunc_intent_slot_intent_slot_intent_Ring_Log_1.c26, lrun [(0, .sl), (1, (.fn 62 1)), (7, (.int .i64)), (8, (.int .i64))] (some [(4, (.int .i64))]) [] 0 (fun a h => slices_IndexFunc_intent_slot_intent_slot_intent_Ring_Log_1.l0 k k (a.1) (a.2.1) (a.2.2.1) (a.2.2.2) h))] := by kernel_rfl
      rw [e]; intro q hq
      rcases List.mem_cons.1 hq with rfl | hq
      · exact slices_IndexFunc_intent_slot_intent_slot_intent_Ring_Log_1.l0_pass hX k k
      cases hq)
    ((slices_IndexFunc_intent_slot_intent_slot_intent_Ring_Log_1.eq k a h).symm.trans e)
/-! ### slices.ContainsFunc[[]corbel/intent.slot,corbel/intent.slot] -/
noncomputable def slices_ContainsFunc_intent_slot_intent_slot_intent_Ring_Log_1.f (k : Nat) (a0 : Sl) (a1 : Option Addr) (h : H) : Option ((Bool) × H) :=
  (slices_IndexFunc_intent_slot_intent_slot_intent_Ring_Log_1.f k a0 (a1) h).bind fun q1 =>
    some (decide (q1.1 ≥ (0 : Int)), q1.2)
noncomputable def slices_ContainsFunc_intent_slot_intent_slot_intent_Ring_Log_1.T (k : Nat) : Tbl := tblOf [⟨63, chkF [(1, 62)], wr [.sl, (.fn 62 1)] [(.int .i64)] (fun a h => slices_IndexFunc_intent_slot_intent_slot_intent_Ring_Log_1.f k (a.1) (a.2) h)⟩]
noncomputable def slices_ContainsFunc_intent_slot_intent_slot_intent_Ring_Log_1.an (k : Nat) (p : Nat) : Option Ann := none
noncomputable def slices_ContainsFunc_intent_slot_intent_slot_intent_Ring_Log_1.body : Code := (Try.f61.body).getD .skip
set_option maxRecDepth 100000 in
theorem slices_ContainsFunc_intent_slot_intent_slot_intent_Ring_Log_1.TS {C : FuncId → Bool} {X : CallF} (hX : XOk C X) (k : Nat) : TblS Try.prog C X (slices_ContainsFunc_intent_slot_intent_slot_intent_Ring_Log_1.T k) := by
  refine tblOf_sound ?_
  intro e he
  rcases List.mem_cons.1 he with rfl | he
  · exact wr_told (slices_IndexFunc_intent_slot_intent_slot_intent_Ring_Log_1.told hX k)
  exact absurd he List.not_mem_nil
set_option maxRecDepth 100000 in
theorem slices_ContainsFunc_intent_slot_intent_slot_intent_Ring_Log_1.eq (k : Nat) (a : RT [.sl, (.fn 62 1)]) (h : H) : (fun a h => slices_ContainsFunc_intent_slot_intent_slot_intent_Ring_Log_1.f k (a.1) (a.2) h) a h = kfun Try.prog (slices_ContainsFunc_intent_slot_intent_slot_intent_Ring_Log_1.T k) (slices_ContainsFunc_intent_slot_intent_slot_intent_Ring_Log_1.an k) (RT [.bool] × H) Try.f61 (encL [.sl, (.fn 62 1)] a) h (fun vs h' => (decL [.bool] vs).bind fun x => some (x, h')) := by kernel_rfl
set_option maxRecDepth 100000 in
theorem slices_ContainsFunc_intent_slot_intent_slot_intent_Ring_Log_1.told {C : FuncId → Bool} {X : CallF} (hX : XOk C X) (k : Nat) : Den.Told Try.prog C X 61 [.sl, (.fn 62 1)] [.bool] (fun a h => slices_ContainsFunc_intent_slot_intent_slot_intent_Ring_Log_1.f k (a.1) (a.2) h) :=
  told_of fun a h q e => fn_of (c := slices_ContainsFunc_intent_slot_intent_slot_intent_Ring_Log_1.body) (slices_ContainsFunc_intent_slot_intent_slot_intent_Ring_Log_1.TS hX k) Try.func61 (by kernel_rfl) (hX.no 61 _ h (by decide))
    (by
      have e : need (slices_ContainsFunc_intent_slot_intent_slot_intent_Ring_Log_1.an k) slices_ContainsFunc_intent_slot_intent_slot_intent_Ring_Log_1.body 1 = [] := by kernel_rfl
      rw [e]; intro q hq; cases hq)
    ((slices_ContainsFunc_intent_slot_intent_slot_intent_Ring_Log_1.eq k a h).symm.trans e)
/-! ### (*corbel/intent.Ring).Log$2 -/
noncomputable def intent_Ring_Log_2.f (k : Nat) (a0 : (Bool × Int × Int × Int × Sl)) (h : H) : Option ((Bool) × H) :=
  (asB (ldc (newR h 96 5 [(Value.bool a0.1), (Value.int .i64 a0.2.1), (Value.int .i64 a0.2.2.1), (Value.int .i64 a0.2.2.2.1), (Value.slice a0.2.2.2.2.a a0.2.2.2.2.n a0.2.2.2.2.c)]) (some ⟨h.next, 0, none⟩))).bind fun b1 =>
    some (!b1, (newR h 96 5 [(Value.bool a0.1), (Value.int .i64 a0.2.1), (Value.int .i64 a0.2.2.1), (Value.int .i64 a0.2.2.2.1), (Value.slice a0.2.2.2.2.a a0.2.2.2.2.n a0.2.2.2.2.c)]))
noncomputable def intent_Ring_Log_2.T (k : Nat) : Tbl := tblOf []
noncomputable def intent_Ring_Log_2.an (k : Nat) (p : Nat) : Option Ann := none
noncomputable def intent_Ring_Log_2.body : Code := (Try.f64.body).getD .skip
set_option maxRecDepth 100000 in
theorem intent_Ring_Log_2.TS {C : FuncId → Bool} {X : CallF} (hX : XOk C X) (k : Nat) : TblS Try.prog C X (intent_Ring_Log_2.T k) := by
  refine tblOf_sound ?_
  intro e he
  exact absurd he List.not_mem_nil
set_option maxRecDepth 100000 in
theorem intent_Ring_Log_2.eq (k : Nat) (a : RT [(.st [.bool, (.int .i64), (.int .i64), (.int .i64), .sl])]) (h : H) : (fun a h => intent_Ring_Log_2.f k a h) a h = kfun Try.prog (intent_Ring_Log_2.T k) (intent_Ring_Log_2.an k) (RT [.bool] × H) Try.f64 (encL [(.st [.bool, (.int .i64), (.int .i64), (.int .i64), .sl])] a) h (fun vs h' => (decL [.bool] vs).bind fun x => some (x, h')) := by kernel_rfl
set_option maxRecDepth 100000 in
theorem intent_Ring_Log_2.told {C : FuncId → Bool} {X : CallF} (hX : XOk C X) (k : Nat) : Den.Told Try.prog C X 64 [(.st [.bool, (.int .i64), (.int .i64), (.int .i64), .sl])] [.bool] (fun a h => intent_Ring_Log_2.f k a h) :=
  told_of fun a h q e => fn_of (c := intent_Ring_Log_2.body) (intent_Ring_Log_2.TS hX k) Try.func64 (by kernel_rfl) (hX.no 64 _ h (by decide))
    (by
      have e : need (intent_Ring_Log_2.an k) intent_Ring_Log_2.body 1 = [] := by kernel_rfl
      rw [e]; intro q hq; cases hq)
    ((intent_Ring_Log_2.eq k a h).symm.trans e)
/-! ### slices.IndexFunc[[]corbel/intent.slot,corbel/intent.slot] -/
noncomputable def slices_IndexFunc_intent_slot_intent_slot_intent_Ring_Log_2.l0 (k : Nat) (n : Nat) : Sl → Unit → Int → Int → H → Option (((Int) ⊕ (Unit)) × H) :=
  Nat.rec (motive := fun _ => Sl → Unit → Int → Int → H → Option (((Int) ⊕ (Unit)) × H)) (fun _ _ _ _ _ => none) (fun _ ih x1 x2 x3 x4 h5 => cond (decide (x4 < x3))
      ((asP (ixs 5 x1.a x1.n x4)).bind fun p6 =>
    (asSt [.bool, (.int .i64), (.int .i64), (.int .i64), .sl] (lda 5 h5 p6)).bind fun s7 =>
    (intent_Ring_Log_2.f k (s7.1, s7.2.1, s7.2.2.1, s7.2.2.2.1, s7.2.2.2.2) h5).bind fun q8 =>
    cond q8.1
      (some (Sum.inl x4, q8.2))
      (ih x1 () x3 (wrapA .i64 (x4 + (1 : Int))) q8.2))
      (some (Sum.inr (), h5))) n
theorem slices_IndexFunc_intent_slot_intent_slot_intent_Ring_Log_2.l0_zero (k : Nat) (x1 : Sl) (x2 : Unit) (x3 : Int) (x4 : Int) (h5 : H) : slices_IndexFunc_intent_slot_intent_slot_intent_Ring_Log_2.l0 k 0 x1 x2 x3 x4 h5 = none := rfl
theorem slices_IndexFunc_intent_slot_intent_slot_intent_Ring_Log_2.l0_succ (k n : Nat) (x1 : Sl) (x2 : Unit) (x3 : Int) (x4 : Int) (h5 : H) : slices_IndexFunc_intent_slot_intent_slot_intent_Ring_Log_2.l0 k (n + 1) x1 x2 x3 x4 h5 = (cond (decide (x4 < x3))
      ((asP (ixs 5 x1.a x1.n x4)).bind fun p6 =>
    (asSt [.bool, (.int .i64), (.int .i64), (.int .i64), .sl] (lda 5 h5 p6)).bind fun s7 =>
    (intent_Ring_Log_2.f k (s7.1, s7.2.1, s7.2.2.1, s7.2.2.2.1, s7.2.2.2.2) h5).bind fun q8 =>
    cond q8.1
      (some (Sum.inl x4, q8.2))
      (slices_IndexFunc_intent_slot_intent_slot_intent_Ring_Log_2.l0 k n x1 () x3 (wrapA .i64 (x4 + (1 : Int))) q8.2))
      (some (Sum.inr (), h5))) := rfl
noncomputable def slices_IndexFunc_intent_slot_intent_slot_intent_Ring_Log_2.f (k : Nat) (a0 : Sl) (a1 : Unit) (h : H) : Option ((Int) × H) :=
  (slices_IndexFunc_intent_slot_intent_slot_intent_Ring_Log_2.l0 k k a0 () (Int.ofNat a0.n) (0 : Int) h).bind fun w9 =>
    match w9.1 with
    | .inl r10 => some (r10, w9.2)
    | .inr o11 => some ((-1 : Int), w9.2)
noncomputable def slices_IndexFunc_intent_slot_intent_slot_intent_Ring_Log_2.T (k : Nat) : Tbl := tblOf [⟨64, anyArgs, wr [(.st [.bool, (.int .i64), (.int .i64), (.int .i64), .sl])] [.bool] (fun a h => intent_Ring_Log_2.f k a h)⟩]
noncomputable def slices_IndexFunc_intent_slot_intent_slot_intent_Ring_Log_2.an (k : Nat) (p : Nat) : Option Ann := cond (Nat.beq p 26) (some (.pass [] (lrun [(0, .sl), (1, (.fn 64 0)), (7, (.int .i64)), (8, (.int .i64))] (some [(4, (.int .i64))]) [] 0 (fun a h => slices_IndexFunc_intent_slot_intent_slot_intent_Ring_Log_2.l0 k k (a.1) (a.2.1) (a.2.2.1) (a.2.2.2) h))))
  (none)
noncomputable def slices_IndexFunc_intent_slot_intent_slot_intent_Ring_Log_2.body : Code := (Try.f63.body).getD .skip
noncomputable def slices_IndexFunc_intent_slot_intent_slot_intent_Ring_Log_2.c26 : Code := cat slices_IndexFunc_intent_slot_intent_slot_intent_Ring_Log_2.body [1, 0, 1, 0, 0]
set_option maxRecDepth 100000 in
theorem slices_IndexFunc_intent_slot_intent_slot_intent_Ring_Log_2.TS {C : FuncId → Bool} {X : CallF} (hX : XOk C X) (k : Nat) : TblS Try.prog C X (slices_IndexFunc_intent_slot_intent_slot_intent_Ring_Log_2.T k) := by
  refine tblOf_sound ?_
  intro e he
  rcases List.mem_cons.1 he with rfl | he
  · exact wr_told (intent_Ring_Log_2.told hX k)
  exact absurd he List.not_mem_nil
set_option maxRecDepth 100000 in
theorem slices_IndexFunc_intent_slot_intent_slot_intent_Ring_Log_2.l0_pass {C : FuncId → Bool} {X : CallF} (hX : XOk C X) (k n : Nat) : PassS Try.prog C X 19 (.loop slices_IndexFunc_intent_slot_intent_slot_intent_Ring_Log_2.c26) (lrun [(0, .sl), (1, (.fn 64 0)), (7, (.int .i64)), (8, (.int .i64))] (some [(4, (.int .i64))]) [] 0 (fun a h => slices_IndexFunc_intent_slot_intent_slot_intent_Ring_Log_2.l0 k n (a.1) (a.2.1) (a.2.2.1) (a.2.2.2) h)) :=
  loop_pass (ins := [(0, .sl), (1, (.fn 64 0)), (7, (.int .i64)), (8, (.int .i64))]) (rets := (some [(4, (.int .i64))])) (outs := []) (id := 0) (tbl := slices_IndexFunc_intent_slot_intent_slot_intent_Ring_Log_2.T k) (an := slices_IndexFunc_intent_slot_intent_slot_intent_Ring_Log_2.an k) (pb := 52) (slices_IndexFunc_intent_slot_intent_slot_intent_Ring_Log_2.TS hX k) (fun n => (fun a h => slices_IndexFunc_intent_slot_intent_slot_intent_Ring_Log_2.l0 k n (a.1) (a.2.1) (a.2.2.1) (a.2.2.2) h)) (fun a h => rfl) (fun n a h => by kernel_rfl)
    (by
      have e : need (slices_IndexFunc_intent_slot_intent_slot_intent_Ring_Log_2.an k) slices_IndexFunc_intent_slot_intent_slot_intent_Ring_Log_2.c26 52 = [] := by kernel_rfl
      rw [e]; intro q hq; cases hq) n
set_option maxRecDepth 100000 in
theorem slices_IndexFunc_intent_slot_intent_slot_intent_Ring_Log_2.eq (k : Nat) (a : RT [.sl, (.fn 64 0)]) (h : H) : (fun a h => slices_IndexFunc_intent_slot_intent_slot_intent_Ring_Log_2.f k (a.1) (a.2) h) a h = kfun Try.prog (slices_IndexFunc_intent_slot_intent_slot_intent_Ring_Log_2.T k) (slices_IndexFunc_intent_slot_intent_slot_intent_Ring_Log_2.an k) (RT [(.int .i64)] × H) Try.f63 (encL [.sl, (.fn 64 0)] a) h (fun vs h' => (decL [(.int .i64)] vs).bind fun x => some (x, h')) := by kernel_rfl
set_option maxRecDepth 100000 in
theorem slices_IndexFunc_intent_slot_intent_slot_intent_Ring_Log_2.told {C : FuncId → Bool} {X : CallF} (hX : XOk C X) (k : Nat) : Den.Told Try.prog C X 63 [.sl, (.fn 64 0)] [(.int .i64)] (fun a h => slices_IndexFunc_intent_slot_intent_slot_intent_Ring_Log_2.f k (a.1) (a.2) h) :=
  told_of fun a h q e => fn_of (c := slices_IndexFunc_intent_slot_intent_slot_intent_Ring_Log_2.body) (slices_IndexFunc_intent_slot_intent_slot_intent_Ring_Log_2.TS hX k) Try.func63 (by kernel_rfl) (hX.no 63 _ h (by decide))
    (by
      have e : need (slices_IndexFunc_intent_slot_intent_slot_intent_Ring_Log_2.an k) slices_IndexFunc_intent_slot_intent_slot_intent_Ring_Log_2.body 1 = [(Code.loop slices_IndexFunc_intent_slot_intent_slot_intent_Ring_Log_2.c26, lrun [(0, .sl), (1, (.fn 64 0)), (7, (.int .i64)), (8, (.int .i64))] (some [(4, (.int .i64))]) [] 0 (fun a h => slices_IndexFunc_intent_slot_intent_slot_intent_Ring_Log_2.l0 k k (a.1) (a.2.1) (a.2.2.1) (a.2.2.2) h))] := by kernel_rfl
      rw [e]; intro q hq
      rcases List.mem_cons.1 hq with rfl | hq
      · exact slices_IndexFunc_intent_slot_intent_slot_intent_Ring_Log_2.l0_pass hX k k
      cases hq)
    ((slices_IndexFunc_intent_slot_intent_slot_intent_Ring_Log_2.eq k a h).symm.trans e)
/-! ### corbel/intent.bytes -/
noncomputable def intent_bytes.l0 (k : Nat) (n : Nat) : Int → Sl → Int → H → Option ((Sl) × H) :=
  Nat.rec (motive := fun _ => Int → Sl → Int → H → Option ((Sl) × H)) (fun _ _ _ _ => none) (fun _ ih x1 x2 x3 h4 => cond (decide (x3 ≥ (0 : Int)))
      ((asI .i64 (binA Try.prog .shr 3 (Value.int .i64 x1) (Value.int .i64 (wrapA .i64 ((8 : Int) * x3))))).bind fun n5 =>
    (asS2 (apv 5 1 1 (Value.slice x2.a x2.n x2.c) (Value.slice (some ⟨h4.next, 0, none⟩) 1 1) (newR h4 5 1 [(Value.int .u8 (wrapA .u8 n5))]))).bind fun q6 =>
    ih x1 q6.1 (wrapA .i64 (x3 - (1 : Int))) q6.2)
      (some (x2, h4))) n
theorem intent_bytes.l0_zero (k : Nat) (x1 : Int) (x2 : Sl) (x3 : Int) (h4 : H) : intent_bytes.l0 k 0 x1 x2 x3 h4 = none := rfl
theorem intent_bytes.l0_succ (k n : Nat) (x1 : Int) (x2 : Sl) (x3 : Int) (h4 : H) : intent_bytes.l0 k (n + 1) x1 x2 x3 h4 = (cond (decide (x3 ≥ (0 : Int)))
      ((asI .i64 (binA Try.prog .shr 3 (Value.int .i64 x1) (Value.int .i64 (wrapA .i64 ((8 : Int) * x3))))).bind fun n5 =>
    (asS2 (apv 5 1 1 (Value.slice x2.a x2.n x2.c) (Value.slice (some ⟨h4.next, 0, none⟩) 1 1) (newR h4 5 1 [(Value.int .u8 (wrapA .u8 n5))]))).bind fun q6 =>
    intent_bytes.l0 k n x1 q6.1 (wrapA .i64 (x3 - (1 : Int))) q6.2)
      (some (x2, h4))) := rfl
noncomputable def intent_bytes.f (k : Nat) (a0 : Int) (h : H) : Option ((Sl) × H) :=
  (intent_bytes.l0 k k a0 (⟨none, 0, 0⟩ : Sl) (5 : Int) h).bind fun w7 =>
    some (w7.1, w7.2)
noncomputable def intent_bytes.T (k : Nat) : Tbl := tblOf []
noncomputable def intent_bytes.an (k : Nat) (p : Nat) : Option Ann := cond (Nat.beq p 58) (some (.pass [] (lrun [(0, (.int .i64)), (3, .sl), (4, (.int .i64))] none [(3, .sl)] 0 (fun a h => intent_bytes.l0 k k (a.1) (a.2.1) (a.2.2) h))))
  (none)
noncomputable def intent_bytes.body : Code := (Try.f66.body).getD .skip
noncomputable def intent_bytes.c58 : Code := cat intent_bytes.body [1, 1, 0, 1, 0, 0]
set_option maxRecDepth 100000 in
theorem intent_bytes.TS {C : FuncId → Bool} {X : CallF} (hX : XOk C X) (k : Nat) : TblS Try.prog C X (intent_bytes.T k) := by
  refine tblOf_sound ?_
  intro e he
  exact absurd he List.not_mem_nil
set_option maxRecDepth 100000 in
theorem intent_bytes.l0_pass {C : FuncId → Bool} {X : CallF} (hX : XOk C X) (k n : Nat) : PassS Try.prog C X 18 (.loop intent_bytes.c58) (lrun [(0, (.int .i64)), (3, .sl), (4, (.int .i64))] none [(3, .sl)] 0 (fun a h => intent_bytes.l0 k n (a.1) (a.2.1) (a.2.2) h)) :=
  loop_pass (ins := [(0, (.int .i64)), (3, .sl), (4, (.int .i64))]) (rets := none) (outs := [(3, .sl)]) (id := 0) (tbl := intent_bytes.T k) (an := intent_bytes.an k) (pb := 116) (intent_bytes.TS hX k) (fun n => (fun a h => intent_bytes.l0 k n (a.1) (a.2.1) (a.2.2) h)) (fun a h => rfl) (fun n a h => by kernel_rfl)
    (by
      have e : need (intent_bytes.an k) intent_bytes.c58 116 = [] := by kernel_rfl
      rw [e]; intro q hq; cases hq) n
set_option maxRecDepth 100000 in
theorem intent_bytes.eq (k : Nat) (a : RT [(.int .i64)]) (h : H) : (fun a h => intent_bytes.f k a h) a h = kfun Try.prog (intent_bytes.T k) (intent_bytes.an k) (RT [.sl] × H) Try.f66 (encL [(.int .i64)] a) h (fun vs h' => (decL [.sl] vs).bind fun x => some (x, h')) := by kernel_rfl
set_option maxRecDepth 100000 in
theorem intent_bytes.told {C : FuncId → Bool} {X : CallF} (hX : XOk C X) (k : Nat) : Den.Told Try.prog C X 66 [(.int .i64)] [.sl] (fun a h => intent_bytes.f k a h) :=
  told_of fun a h q e => fn_of (c := intent_bytes.body) (intent_bytes.TS hX k) Try.func66 (by kernel_rfl) (hX.no 66 _ h (by decide))
    (by
      have e : need (intent_bytes.an k) intent_bytes.body 1 = [(Code.loop intent_bytes.c58, lrun [(0, (.int .i64)), (3, .sl), (4, (.int .i64))] none [(3, .sl)] 0 (fun a h => intent_bytes.l0 k k (a.1) (a.2.1) (a.2.2) h))] := by kernel_rfl
      rw [e]; intro q hq
      rcases List.mem_cons.1 hq with rfl | hq
      · exact intent_bytes.l0_pass hX k k
      cases hq)
    ((intent_bytes.eq k a h).symm.trans e)
/-! ### slices.Grow[[]byte,byte] -/
noncomputable def slices_Grow_byte_byte.f (k : Nat) (a0 : Sl) (a1 : Int) (h : H) : Option ((Sl) × H) :=
  (cond (decide (a1 < (0 : Int)))
      (none)
      (some ((), h)) : Option ((Unit) × H)).bind fun j1 =>
    (asI2 .i64 (pv j1.2 (capV a0.a a0.c))).bind fun q2 =>
    (cond (decide ((wrapA .i64 (a1 - (wrapA .i64 (q2.1 - (Int.ofNat a0.n))))) > (0 : Int)))
      ((asI2 .i64 (pv q2.2 (capV a0.a a0.c))).bind fun q3 =>
    (asS (subs 1 (Value.slice a0.a a0.n a0.c) none (some q3.1))).bind fun s4 =>
    (asS2 (apz 5 1 1 [(Value.int .u8 (0 : Int))] (Value.slice s4.a s4.n s4.c) (wrapA .i64 (a1 - (wrapA .i64 (q2.1 - (Int.ofNat a0.n))))) q3.2)).bind fun q5 =>
    (asS (subs 1 (Value.slice q5.1.a q5.1.n q5.1.c) none (some (Int.ofNat a0.n)))).bind fun s6 =>
    some (s6, q5.2))
      (some (a0, q2.2)) : Option ((Sl) × H)).bind fun j7 =>
    some (j7.1, j7.2)
noncomputable def slices_Grow_byte_byte.T (k : Nat) : Tbl := tblOf []
noncomputable def slices_Grow_byte_byte.an (k : Nat) (p : Nat) : Option Ann := cond (Nat.beq p 59) (some (.join [] none [(0, .sl)]))
  (cond (Nat.beq p 13) (some (.join [0, 1] none []))
  (none))
noncomputable def slices_Grow_byte_byte.body : Code := (Try.f71.body).getD .skip
set_option maxRecDepth 100000 in
theorem slices_Grow_byte_byte.TS {C : FuncId → Bool} {X : CallF} (hX : XOk C X) (k : Nat) : TblS Try.prog C X (slices_Grow_byte_byte.T k) := by
  refine tblOf_sound ?_
  intro e he
  exact absurd he List.not_mem_nil
set_option maxRecDepth 100000 in
theorem slices_Grow_byte_byte.eq (k : Nat) (a : RT [.sl, (.int .i64)]) (h : H) : (fun a h => slices_Grow_byte_byte.f k (a.1) (a.2) h) a h = kfun Try.prog (slices_Grow_byte_byte.T k) (slices_Grow_byte_byte.an k) (RT [.sl] × H) Try.f71 (encL [.sl, (.int .i64)] a) h (fun vs h' => (decL [.sl] vs).bind fun x => some (x, h')) := by kernel_rfl
set_option maxRecDepth 100000 in
theorem slices_Grow_byte_byte.told {C : FuncId → Bool} {X : CallF} (hX : XOk C X) (k : Nat) : Den.Told Try.prog C X 71 [.sl, (.int .i64)] [.sl] (fun a h => slices_Grow_byte_byte.f k (a.1) (a.2) h) :=
  told_of fun a h q e => fn_of (c := slices_Grow_byte_byte.body) (slices_Grow_byte_byte.TS hX k) Try.func71 (by kernel_rfl) (hX.no 71 _ h (by decide))
    (by
      have e : need (slices_Grow_byte_byte.an k) slices_Grow_byte_byte.body 1 = [] := by kernel_rfl
      rw [e]; intro q hq; cases hq)
    ((slices_Grow_byte_byte.eq k a h).symm.trans e)
/-! ### slices.Concat[[]byte,byte] -/
noncomputable def slices_Concat_byte_byte.l1 (k : Nat) (n : Nat) : Sl → Int → Sl → Int → H → Option ((Sl) × H) :=
  Nat.rec (motive := fun _ => Sl → Int → Sl → Int → H → Option ((Sl) × H)) (fun _ _ _ _ _ => none) (fun _ ih x12 x13 x14 x15 h16 => cond (decide (x15 < x13))
      ((asP (ixs 1 x12.a x12.n x15)).bind fun p17 =>
    (asS (ldc h16 p17)).bind fun s18 =>
    (asS2 (apv 5 1 1 (Value.slice x14.a x14.n x14.c) (Value.slice s18.a s18.n s18.c) h16)).bind fun q19 =>
    ih x12 x13 q19.1 (wrapA .i64 (x15 + (1 : Int))) q19.2)
      (some (x14, h16))) n
theorem slices_Concat_byte_byte.l1_zero (k : Nat) (x12 : Sl) (x13 : Int) (x14 : Sl) (x15 : Int) (h16 : H) : slices_Concat_byte_byte.l1 k 0 x12 x13 x14 x15 h16 = none := rfl
theorem slices_Concat_byte_byte.l1_succ (k n : Nat) (x12 : Sl) (x13 : Int) (x14 : Sl) (x15 : Int) (h16 : H) : slices_Concat_byte_byte.l1 k (n + 1) x12 x13 x14 x15 h16 = (cond (decide (x15 < x13))
      ((asP (ixs 1 x12.a x12.n x15)).bind fun p17 =>
    (asS (ldc h16 p17)).bind fun s18 =>
    (asS2 (apv 5 1 1 (Value.slice x14.a x14.n x14.c) (Value.slice s18.a s18.n s18.c) h16)).bind fun q19 =>
    slices_Concat_byte_byte.l1 k n x12 x13 q19.1 (wrapA .i64 (x15 + (1 : Int))) q19.2)
      (some (x14, h16))) := rfl
noncomputable def slices_Concat_byte_byte.l0 (k : Nat) (n : Nat) : Sl → Sl → Int → Int → Int → H → Option ((Int) × H) :=
  Nat.rec (motive := fun _ => Sl → Sl → Int → Int → Int → H → Option ((Int) × H)) (fun _ _ _ _ _ _ => none) (fun _ ih x1 x2 x3 x4 x5 h6 => cond (decide (x5 < x3))
      ((asP (ixs 1 x2.a x2.n x5)).bind fun p7 =>
    (asS (ldc h6 p7)).bind fun s8 =>
    (cond (decide ((wrapA .i64 (x4 + (Int.ofNat s8.n))) < (0 : Int)))
      (none)
      (some ((), h6)) : Option ((Unit) × H)).bind fun j9 =>
    ih x1 x2 x3 (wrapA .i64 (x4 + (Int.ofNat s8.n))) (wrapA .i64 (x5 + (1 : Int))) j9.2)
      (some (x4, h6))) n
theorem slices_Concat_byte_byte.l0_zero (k : Nat) (x1 : Sl) (x2 : Sl) (x3 : Int) (x4 : Int) (x5 : Int) (h6 : H) : slices_Concat_byte_byte.l0 k 0 x1 x2 x3 x4 x5 h6 = none := rfl
theorem slices_Concat_byte_byte.l0_succ (k n : Nat) (x1 : Sl) (x2 : Sl) (x3 : Int) (x4 : Int) (x5 : Int) (h6 : H) : slices_Concat_byte_byte.l0 k (n + 1) x1 x2 x3 x4 x5 h6 = (cond (decide (x5 < x3))
      ((asP (ixs 1 x2.a x2.n x5)).bind fun p7 =>
    (asS (ldc h6 p7)).bind fun s8 =>
    (cond (decide ((wrapA .i64 (x4 + (Int.ofNat s8.n))) < (0 : Int)))
      (none)
      (some ((), h6)) : Option ((Unit) × H)).bind fun j9 =>
    slices_Concat_byte_byte.l0 k n x1 x2 x3 (wrapA .i64 (x4 + (Int.ofNat s8.n))) (wrapA .i64 (x5 + (1 : Int))) j9.2)
      (some (x4, h6))) := rfl
noncomputable def slices_Concat_byte_byte.f (k : Nat) (a0 : Sl) (h : H) : Option ((Sl) × H) :=
  (slices_Concat_byte_byte.l0 k k a0 a0 (Int.ofNat a0.n) (0 : Int) (0 : Int) h).bind fun w10 =>
    (slices_Grow_byte_byte.f k (⟨none, 0, 0⟩ : Sl) w10.1 w10.2).bind fun q11 =>
    (slices_Concat_byte_byte.l1 k k a0 (Int.ofNat a0.n) q11.1 (0 : Int) q11.2).bind fun w20 =>
    some (w20.1, w20.2)
noncomputable def slices_Concat_byte_byte.T (k : Nat) : Tbl := tblOf [⟨71, anyArgs, wr [.sl, (.int .i64)] [.sl] (fun a h => slices_Grow_byte_byte.f k (a.1) (a.2) h)⟩]
noncomputable def slices_Concat_byte_byte.an (k : Nat) (p : Nat) : Option Ann := cond (Nat.beq p 250) (some (.pass [] (lrun [(25, .sl), (26, (.int .i64)), (6, .sl), (27, (.int .i64))] none [(6, .sl)] 2 (fun a h => slices_Concat_byte_byte.l1 k k (a.1) (a.2.1) (a.2.2.1) (a.2.2.2) h))))
  (cond (Nat.beq p 58) (some (.pass [0] (lrun [(0, .sl), (9, .sl), (10, (.int .i64)), (3, (.int .i64)), (11, (.int .i64))] none [(3, (.int .i64))] 0 (fun a h => slices_Concat_byte_byte.l0 k k (a.1) (a.2.1) (a.2.2.1) (a.2.2.2.1) (a.2.2.2.2) h))))
  (cond (Nat.beq p 14951) (some (.join [0, 3, 9, 10, 11] none []))
  (none)))
noncomputable def slices_Concat_byte_byte.body : Code := (Try.f65.body).getD .skip
noncomputable def slices_Concat_byte_byte.c58 : Code := cat slices_Concat_byte_byte.body [1, 1, 0, 1, 0, 0]
noncomputable def slices_Concat_byte_byte.c250 : Code := cat slices_Concat_byte_byte.body [1, 1, 1, 1, 0, 1, 0, 0]
set_option maxRecDepth 100000 in
theorem slices_Concat_byte_byte.TS {C : FuncId → Bool} {X : CallF} (hX : XOk C X) (k : Nat) : TblS Try.prog C X (slices_Concat_byte_byte.T k) := by
  refine tblOf_sound ?_
  intro e he
  rcases List.mem_cons.1 he with rfl | he
  · exact wr_told (slices_Grow_byte_byte.told hX k)
  exact absurd he List.not_mem_nil
set_option maxRecDepth 100000 in
theorem slices_Concat_byte_byte.l1_pass {C : FuncId → Bool} {X : CallF} (hX : XOk C X) (k n : Nat) : PassS Try.prog C X 36 (.loop slices_Concat_byte_byte.c250) (lrun [(25, .sl), (26, (.int .i64)), (6, .sl), (27, (.int .i64))] none [(6, .sl)] 2 (fun a h => slices_Concat_byte_byte.l1 k n (a.1) (a.2.1) (a.2.2.1) (a.2.2.2) h)) :=
  loop_pass (ins := [(25, .sl), (26, (.int .i64)), (6, .sl), (27, (.int .i64))]) (rets := none) (outs := [(6, .sl)]) (id := 2) (tbl := slices_Concat_byte_byte.T k) (an := slices_Concat_byte_byte.an k) (pb := 500) (slices_Concat_byte_byte.TS hX k) (fun n => (fun a h => slices_Concat_byte_byte.l1 k n (a.1) (a.2.1) (a.2.2.1) (a.2.2.2) h)) (fun a h => rfl) (fun n a h => by kernel_rfl)
    (by
      have e : need (slices_Concat_byte_byte.an k) slices_Concat_byte_byte.c250 500 = [] := by kernel_rfl
      rw [e]; intro q hq; cases hq) n
set_option maxRecDepth 100000 in
theorem slices_Concat_byte_byte.l0_pass {C : FuncId → Bool} {X : CallF} (hX : XOk C X) (k n : Nat) : PassS Try.prog C X 36 (.loop slices_Concat_byte_byte.c58) (lrun [(0, .sl), (9, .sl), (10, (.int .i64)), (3, (.int .i64)), (11, (.int .i64))] none [(3, (.int .i64))] 0 (fun a h => slices_Concat_byte_byte.l0 k n (a.1) (a.2.1) (a.2.2.1) (a.2.2.2.1) (a.2.2.2.2) h)) :=
  loop_pass (ins := [(0, .sl), (9, .sl), (10, (.int .i64)), (3, (.int .i64)), (11, (.int .i64))]) (rets := none) (outs := [(3, (.int .i64))]) (id := 0) (tbl := slices_Concat_byte_byte.T k) (an := slices_Concat_byte_byte.an k) (pb := 116) (slices_Concat_byte_byte.TS hX k) (fun n => (fun a h => slices_Concat_byte_byte.l0 k n (a.1) (a.2.1) (a.2.2.1) (a.2.2.2.1) (a.2.2.2.2) h)) (fun a h => rfl) (fun n a h => by kernel_rfl)
    (by
      have e : need (slices_Concat_byte_byte.an k) slices_Concat_byte_byte.c58 116 = [] := by kernel_rfl
      rw [e]; intro q hq; cases hq) n
set_option maxRecDepth 100000 in
theorem slices_Concat_byte_byte.eq (k : Nat) (a : RT [.sl]) (h : H) : (fun a h => slices_Concat_byte_byte.f k a h) a h = kfun Try.prog (slices_Concat_byte_byte.T k) (slices_Concat_byte_byte.an k) (RT [.sl] × H) Try.f65 (encL [.sl] a) h (fun vs h' => (decL [.sl] vs).bind fun x => some (x, h')) := by kernel_rfl
set_option maxRecDepth 100000 in
theorem slices_Concat_byte_byte.told {C : FuncId → Bool} {X : CallF} (hX : XOk C X) (k : Nat) : Den.Told Try.prog C X 65 [.sl] [.sl] (fun a h => slices_Concat_byte_byte.f k a h) :=
  told_of fun a h q e => fn_of (c := slices_Concat_byte_byte.body) (slices_Concat_byte_byte.TS hX k) Try.func65 (by kernel_rfl) (hX.no 65 _ h (by decide))
    (by
      have e : need (slices_Concat_byte_byte.an k) slices_Concat_byte_byte.body 1 = [(Code.loop slices_Concat_byte_byte.c58, lrun [(0, .sl), (9, .sl), (10, (.int .i64)), (3, (.int .i64)), (11, (.int .i64))] none [(3, (.int .i64))] 0 (fun a h => slices_Concat_byte_byte.l0 k k (a.1) (a.2.1) (a.2.2.1) (a.2.2.2.1) (a.2.2.2.2) h)), (Code.loop slices_Concat_byte_byte.c250, lrun [(25, .sl), (26, (.int .i64)), (6, .sl), (27, (.int .i64))] none [(6, .sl)] 2 (fun a h => slices_Concat_byte_byte.l1 k k (a.1) (a.2.1) (a.2.2.1) (a.2.2.2) h))] := by kernel_rfl
      rw [e]; intro q hq
      rcases List.mem_cons.1 hq with rfl | hq
      · exact slices_Concat_byte_byte.l0_pass hX k k
      rcases List.mem_cons.1 hq with rfl | hq
      · exact slices_Concat_byte_byte.l1_pass hX k k
      cases hq)
    ((slices_Concat_byte_byte.eq k a h).symm.trans e)
/-! ### (*corbel/intent.Ring).Log -/
noncomputable def intent_Ring_Log.f (k : Nat) (a0 : Option Addr) (a1 : (Int × Int × Sl)) (h : H) : Option ((Int) × H) :=
  (asSt [(.int .i64), (.int .i64), .sl] (lda 3 (newR h 75 3 [(Value.int .i64 a1.1), (Value.int .i64 a1.2.1), (Value.slice a1.2.2.a a1.2.2.n a1.2.2.c)]) (some ⟨h.next, 0, none⟩))).bind fun s1 =>
    (intent_Right.f k (s1.1, s1.2.1, s1.2.2) (newR h 75 3 [(Value.int .i64 a1.1), (Value.int .i64 a1.2.1), (Value.slice a1.2.2.a a1.2.2.n a1.2.2.c)])).bind fun q2 =>
    cond (!q2.1)
      (some ((1 : Int), q2.2))
      ((asP (nilA (Value.pointer a0))).bind fun p3 =>
    (asP (fadd 1 p3)).bind fun p4 =>
    (asS (subp 16 5 p4 none none)).bind fun s5 =>
    (slices_ContainsFunc_intent_slot_intent_slot_intent_Ring_Log_1.f k s5 ((some ⟨h.next, 0, none⟩)) q2.2).bind fun q6 =>
    cond q6.1
      (some ((0 : Int), q6.2))
      ((asP (nilA (Value.pointer a0))).bind fun p7 =>
    (asP (fadd 1 p7)).bind fun p8 =>
    (asS (subp 16 5 p8 none none)).bind fun s9 =>
    (slices_IndexFunc_intent_slot_intent_slot_intent_Ring_Log_2.f k s9 () q6.2).bind fun q10 =>
    (cond (decide (q10.1 < (0 : Int))) (some (true, q10.2))
      ((asP (nilA (Value.pointer a0))).bind fun p11 =>
    (asP (fadd 81 p11)).bind fun p12 =>
    (asI .i64 (ldc q10.2 p12)).bind fun n13 =>
    some (decide (n13 > (281474976710655 : Int)), q10.2))).bind fun g14 =>
    cond g14.1
      (some ((6 : Int), g14.2))
      ((asP (nilA (Value.pointer a0))).bind fun p15 =>
    (asP (fadd 81 p15)).bind fun p16 =>
    (asI .i64 (ldc g14.2 p16)).bind fun n17 =>
    (intent_bytes.f k n17 g14.2).bind fun q18 =>
    (asI .i64 (ldc q18.2 (some ⟨h.next, 0, none⟩))).bind fun n19 =>
    (asI .i64 (ldc (newR q18.2 5 1 [(Value.int .u8 (wrapA .u8 n19))]) (some ⟨h.next, 1, none⟩))).bind fun n20 =>
    (intent_bytes.f k n20 (newR q18.2 5 1 [(Value.int .u8 (wrapA .u8 n19))])).bind fun q21 =>
    (asS (ldc q21.2 (some ⟨h.next, 2, none⟩))).bind fun s22 =>
    (slices_Concat_byte_byte.f k (⟨(some ⟨q21.2.next, 0, none⟩), 4, 4⟩ : Sl) (newR q21.2 22 1 [(Value.slice q18.1.a q18.1.n q18.1.c), (Value.slice (some ⟨q18.2.next, 0, none⟩) 1 1), (Value.slice q21.1.a q21.1.n q21.1.c), (Value.slice s22.a s22.n s22.c)])).bind fun q23 =>
    (mark_Seal.f k (2 : Int) q23.1 q23.2).bind fun q24 =>
    cond (same1 g14.2 q18.2 (some (Value.pointer (some ⟨h.next, 0, none⟩))) && (same1 (newR q18.2 5 1 [(Value.int .u8 (wrapA .u8 n19))]) q21.2 (some (Value.pointer (some ⟨h.next, 0, none⟩))) && (same1 g14.2 q18.2 (some (Value.pointer (some ⟨h.next, 1, none⟩))) && (same1 g14.2 q18.2 (some (Value.pointer (some ⟨h.next, 2, none⟩))) && (same1 (newR q18.2 5 1 [(Value.int .u8 (wrapA .u8 n19))]) q21.2 (some (Value.pointer (some ⟨h.next, 2, none⟩))) && (true)))))) ((asP (nilA (Value.pointer a0))).bind fun p25 =>
    (asP (fadd 0 p25)).bind fun p26 =>
    (asP (ldc q24.2 p26)).bind fun p27 =>
    (intent_block.f k q10.1 q24.2).bind fun q28 =>
    (platter_Platter_Write.f k p27 q28.1 q24.1.1 q28.2).bind fun q29 =>
    cond (same1 q24.2 q28.2 (some (Value.pointer p26)) && (true)) ((asS (ldc q29.2 (some ⟨h.next, 2, none⟩))).bind fun s30 =>
    (slices_Clone_byte_byte.f k s30 q29.2).bind fun q31 =>
    (stv 1 q31.2 (some ⟨h.next, 2, none⟩) [(Value.slice q31.1.a q31.1.n q31.1.c)]).bind fun q32 =>
    (asP (nilA (Value.pointer a0))).bind fun p33 =>
    (asP (fadd 81 p33)).bind fun p34 =>
    (asI .i64 (ldc q32.2 p34)).bind fun n35 =>
    (asSt [(.int .i64), (.int .i64), .sl] (lda 3 q32.2 (some ⟨h.next, 0, none⟩))).bind fun s36 =>
    (asP (nilA (Value.pointer a0))).bind fun p37 =>
    (asP (fadd 1 p37)).bind fun p38 =>
    (asP (ixs 5 p38 16 q10.1)).bind fun p39 =>
    (stv 5 q32.2 p39 [(Value.bool true), (Value.int .i64 n35), (Value.int .i64 s36.1), (Value.int .i64 s36.2.1), (Value.slice s36.2.2.a s36.2.2.n s36.2.2.c)]).bind fun q40 =>
    (asP (nilA (Value.pointer a0))).bind fun p41 =>
    (asP (fadd 81 p41)).bind fun p42 =>
    (asI .i64 (ldc q40.2 p42)).bind fun n43 =>
    (asP (nilA (Value.pointer a0))).bind fun p44 =>
    (asP (fadd 81 p44)).bind fun p45 =>
    (stv 1 q40.2 p45 [(Value.int .i64 (wrapA .i64 (n43 + (1 : Int))))]).bind fun q46 =>
    some ((0 : Int), q46.2)) none) none)))
noncomputable def intent_Ring_Log.T (k : Nat) : Tbl := tblOf [⟨50, anyArgs, wr [(.st [(.int .i64), (.int .i64), .sl])] [.bool] (fun a h => intent_Right.f k a h)⟩,
  ⟨61, chkF [(1, 62)], wr [.sl, (.fn 62 1)] [.bool] (fun a h => slices_ContainsFunc_intent_slot_intent_slot_intent_Ring_Log_1.f k (a.1) (a.2) h)⟩,
  ⟨63, chkF [(1, 64)], wr [.sl, (.fn 64 0)] [(.int .i64)] (fun a h => slices_IndexFunc_intent_slot_intent_slot_intent_Ring_Log_2.f k (a.1) (a.2) h)⟩,
  ⟨66, anyArgs, wr [(.int .i64)] [.sl] (fun a h => intent_bytes.f k a h)⟩,
  ⟨65, anyArgs, wr [.sl] [.sl] (fun a h => slices_Concat_byte_byte.f k a h)⟩,
  ⟨14, anyArgs, wr [(.int .i64), .sl] [.sl, (.int .i64)] (fun a h => mark_Seal.f k (a.1) (a.2) h)⟩,
  ⟨59, anyArgs, wr [(.int .i64)] [(.int .i64)] (fun a h => intent_block.f k a h)⟩,
  ⟨26, anyArgs, wr [.ptr, (.int .i64), .sl] [.bool] (fun a h => platter_Platter_Write.f k (a.1) (a.2.1) (a.2.2) h)⟩,
  ⟨51, anyArgs, wr [.sl] [.sl] (fun a h => slices_Clone_byte_byte.f k a h)⟩]
noncomputable def intent_Ring_Log.an (k : Nat) (p : Nat) : Option Ann := none
noncomputable def intent_Ring_Log.body : Code := (Try.f45.body).getD .skip
set_option maxRecDepth 100000 in
theorem intent_Ring_Log.TS {C : FuncId → Bool} {X : CallF} (hX : XOk C X) (k : Nat) : TblS Try.prog C X (intent_Ring_Log.T k) := by
  refine tblOf_sound ?_
  intro e he
  rcases List.mem_cons.1 he with rfl | he
  · exact wr_told (intent_Right.told hX k)
  rcases List.mem_cons.1 he with rfl | he
  · exact wr_told (slices_ContainsFunc_intent_slot_intent_slot_intent_Ring_Log_1.told hX k)
  rcases List.mem_cons.1 he with rfl | he
  · exact wr_told (slices_IndexFunc_intent_slot_intent_slot_intent_Ring_Log_2.told hX k)
  rcases List.mem_cons.1 he with rfl | he
  · exact wr_told (intent_bytes.told hX k)
  rcases List.mem_cons.1 he with rfl | he
  · exact wr_told (slices_Concat_byte_byte.told hX k)
  rcases List.mem_cons.1 he with rfl | he
  · exact wr_told (mark_Seal.told hX k)
  rcases List.mem_cons.1 he with rfl | he
  · exact wr_told (intent_block.told hX k)
  rcases List.mem_cons.1 he with rfl | he
  · exact wr_told (platter_Platter_Write.told hX k)
  rcases List.mem_cons.1 he with rfl | he
  · exact wr_told (slices_Clone_byte_byte.told hX k)
  exact absurd he List.not_mem_nil
set_option maxRecDepth 100000 in
theorem intent_Ring_Log.eq (k : Nat) (a : RT [.ptr, (.st [(.int .i64), (.int .i64), .sl])]) (h : H) : (fun a h => intent_Ring_Log.f k (a.1) (a.2) h) a h = kfun Try.prog (intent_Ring_Log.T k) (intent_Ring_Log.an k) (RT [(.int .i64)] × H) Try.f45 (encL [.ptr, (.st [(.int .i64), (.int .i64), .sl])] a) h (fun vs h' => (decL [(.int .i64)] vs).bind fun x => some (x, h')) := by kernel_rfl
set_option maxRecDepth 100000 in
theorem intent_Ring_Log.told {C : FuncId → Bool} {X : CallF} (hX : XOk C X) (k : Nat) : Den.Told Try.prog C X 45 [.ptr, (.st [(.int .i64), (.int .i64), .sl])] [(.int .i64)] (fun a h => intent_Ring_Log.f k (a.1) (a.2) h) :=
  told_of fun a h q e => fn_of (c := intent_Ring_Log.body) (intent_Ring_Log.TS hX k) Try.func45 (by kernel_rfl) (hX.no 45 _ h (by decide))
    (by
      have e : need (intent_Ring_Log.an k) intent_Ring_Log.body 1 = [] := by kernel_rfl
      rw [e]; intro q hq; cases hq)
    ((intent_Ring_Log.eq k a h).symm.trans e)
/-! ### (*corbel/intent.Ring).Release -/
noncomputable def intent_Ring_Release.l0 (k : Nat) (n : Nat) : (Option Addr) → Int → Int → (Array Value) → Int → Int → H → Option ((Int) × H) :=
  Nat.rec (motive := fun _ => (Option Addr) → Int → Int → (Array Value) → Int → Int → H → Option ((Int) × H)) (fun _ _ _ _ _ _ _ => none) (fun _ ih x4 x5 x6 x7 x8 x9 h10 => cond (decide (x9 < (16 : Int)))
      ((asSt [.bool, (.int .i64), (.int .i64), (.int .i64), .sl] (ixg 16 5 x7 x9)).bind fun s11 =>
    (stv 5 (newR h10 96 5 [(Value.bool false), (Value.int .i64 (0 : Int)), (Value.int .i64 (0 : Int)), (Value.int .i64 (0 : Int)), (Value.slice none 0 0)]) (some ⟨h10.next, 0, none⟩) [(Value.bool s11.1), (Value.int .i64 s11.2.1), (Value.int .i64 s11.2.2.1), (Value.int .i64 s11.2.2.2.1), (Value.slice s11.2.2.2.2.a s11.2.2.2.2.n s11.2.2.2.2.c)]).bind fun q12 =>
    (asB (ldc q12.2 (some ⟨h10.next, 0, none⟩))).bind fun b13 =>
    (cond b13 ((asI .i64 (ldc q12.2 (some ⟨h10.next, 2, none⟩))).bind fun n14 =>
    some (n14 == x5, q12.2))
      (some (false, q12.2))).bind fun g15 =>
    (cond g15.1 ((asI .i64 (ldc g15.2 (some ⟨h10.next, 3, none⟩))).bind fun n16 =>
    some (n16 == x6, g15.2))
      (some (false, g15.2))).bind fun g17 =>
    (cond g17.1
      ((asP (nilA (Value.pointer x4))).bind fun p18 =>
    (asP (fadd 1 p18)).bind fun p19 =>
    (asP (ixs 5 p19 16 x9)).bind fun p20 =>
    (stv 5 g17.2 p20 [(Value.bool false), (Value.int .i64 (0 : Int)), (Value.int .i64 (0 : Int)), (Value.int .i64 (0 : Int)), (Value.slice none 0 0)]).bind fun q21 =>
    some (wrapA .i64 (x8 + (1 : Int)), q21.2))
      (some (x8, g17.2)) : Option ((Int) × H)).bind fun j22 =>
    ih x4 x5 x6 x7 j22.1 (wrapA .i64 (x9 + (1 : Int))) j22.2)
      (some (x8, h10))) n
theorem intent_Ring_Release.l0_zero (k : Nat) (x4 : Option Addr) (x5 : Int) (x6 : Int) (x7 : Array Value) (x8 : Int) (x9 : Int) (h10 : H) : intent_Ring_Release.l0 k 0 x4 x5 x6 x7 x8 x9 h10 = none := rfl
theorem intent_Ring_Release.l0_succ (k n : Nat) (x4 : Option Addr) (x5 : Int) (x6 : Int) (x7 : Array Value) (x8 : Int) (x9 : Int) (h10 : H) : intent_Ring_Release.l0 k (n + 1) x4 x5 x6 x7 x8 x9 h10 = (cond (decide (x9 < (16 : Int)))
      ((asSt [.bool, (.int .i64), (.int .i64), (.int .i64), .sl] (ixg 16 5 x7 x9)).bind fun s11 =>
    (stv 5 (newR h10 96 5 [(Value.bool false), (Value.int .i64 (0 : Int)), (Value.int .i64 (0 : Int)), (Value.int .i64 (0 : Int)), (Value.slice none 0 0)]) (some ⟨h10.next, 0, none⟩) [(Value.bool s11.1), (Value.int .i64 s11.2.1), (Value.int .i64 s11.2.2.1), (Value.int .i64 s11.2.2.2.1), (Value.slice s11.2.2.2.2.a s11.2.2.2.2.n s11.2.2.2.2.c)]).bind fun q12 =>
    (asB (ldc q12.2 (some ⟨h10.next, 0, none⟩))).bind fun b13 =>
    (cond b13 ((asI .i64 (ldc q12.2 (some ⟨h10.next, 2, none⟩))).bind fun n14 =>
    some (n14 == x5, q12.2))
      (some (false, q12.2))).bind fun g15 =>
    (cond g15.1 ((asI .i64 (ldc g15.2 (some ⟨h10.next, 3, none⟩))).bind fun n16 =>
    some (n16 == x6, g15.2))
      (some (false, g15.2))).bind fun g17 =>
    (cond g17.1
      ((asP (nilA (Value.pointer x4))).bind fun p18 =>
    (asP (fadd 1 p18)).bind fun p19 =>
    (asP (ixs 5 p19 16 x9)).bind fun p20 =>
    (stv 5 g17.2 p20 [(Value.bool false), (Value.int .i64 (0 : Int)), (Value.int .i64 (0 : Int)), (Value.int .i64 (0 : Int)), (Value.slice none 0 0)]).bind fun q21 =>
    some (wrapA .i64 (x8 + (1 : Int)), q21.2))
      (some (x8, g17.2)) : Option ((Int) × H)).bind fun j22 =>
    intent_Ring_Release.l0 k n x4 x5 x6 x7 j22.1 (wrapA .i64 (x9 + (1 : Int))) j22.2)
      (some (x8, h10))) := rfl
noncomputable def intent_Ring_Release.f (k : Nat) (a0 : Option Addr) (a1 : Int) (a2 : Int) (h : H) : Option ((Int) × H) :=
  (asP (nilA (Value.pointer a0))).bind fun p1 =>
    (asP (fadd 1 p1)).bind fun p2 =>
    (asA (lda 80 h p2)).bind fun a3 =>
    (intent_Ring_Release.l0 k k a0 a1 a2 a3 (0 : Int) (0 : Int) h).bind fun w23 =>
    some (w23.1, w23.2)
noncomputable def intent_Ring_Release.T (k : Nat) : Tbl := tblOf []
noncomputable def intent_Ring_Release.an (k : Nat) (p : Nat) : Option Ann := cond (Nat.beq p 58) (some (.pass [] (lrun [(0, .ptr), (1, (.int .i64)), (2, (.int .i64)), (13, .agg), (7, (.int .i64)), (14, (.int .i64))] none [(7, (.int .i64))] 0 (fun a h => intent_Ring_Release.l0 k k (a.1) (a.2.1) (a.2.2.1) (a.2.2.2.1) (a.2.2.2.2.1) (a.2.2.2.2.2) h))))
  (cond (Nat.beq p 7475) (some (.join [0, 1, 2, 13, 14] none [(7, (.int .i64))]))
  (none))
noncomputable def intent_Ring_Release.body : Code := (Try.f46.body).getD .skip
noncomputable def intent_Ring_Release.c58 : Code := cat intent_Ring_Release.body [1, 1, 0, 1, 0, 0]
set_option maxRecDepth 100000 in
theorem intent_Ring_Release.TS {C : FuncId → Bool} {X : CallF} (hX : XOk C X) (k : Nat) : TblS Try.prog C X (intent_Ring_Release.T k) := by
  refine tblOf_sound ?_
  intro e he
  exact absurd he List.not_mem_nil
set_option maxRecDepth 100000 in
theorem intent_Ring_Release.l0_pass {C : FuncId → Bool} {X : CallF} (hX : XOk C X) (k n : Nat) : PassS Try.prog C X 44 (.loop intent_Ring_Release.c58) (lrun [(0, .ptr), (1, (.int .i64)), (2, (.int .i64)), (13, .agg), (7, (.int .i64)), (14, (.int .i64))] none [(7, (.int .i64))] 0 (fun a h => intent_Ring_Release.l0 k n (a.1) (a.2.1) (a.2.2.1) (a.2.2.2.1) (a.2.2.2.2.1) (a.2.2.2.2.2) h)) :=
  loop_pass (ins := [(0, .ptr), (1, (.int .i64)), (2, (.int .i64)), (13, .agg), (7, (.int .i64)), (14, (.int .i64))]) (rets := none) (outs := [(7, (.int .i64))]) (id := 0) (tbl := intent_Ring_Release.T k) (an := intent_Ring_Release.an k) (pb := 116) (intent_Ring_Release.TS hX k) (fun n => (fun a h => intent_Ring_Release.l0 k n (a.1) (a.2.1) (a.2.2.1) (a.2.2.2.1) (a.2.2.2.2.1) (a.2.2.2.2.2) h)) (fun a h => rfl) (fun n a h => by kernel_rfl)
    (by
      have e : need (intent_Ring_Release.an k) intent_Ring_Release.c58 116 = [] := by kernel_rfl
      rw [e]; intro q hq; cases hq) n
set_option maxRecDepth 100000 in
theorem intent_Ring_Release.eq (k : Nat) (a : RT [.ptr, (.int .i64), (.int .i64)]) (h : H) : (fun a h => intent_Ring_Release.f k (a.1) (a.2.1) (a.2.2) h) a h = kfun Try.prog (intent_Ring_Release.T k) (intent_Ring_Release.an k) (RT [(.int .i64)] × H) Try.f46 (encL [.ptr, (.int .i64), (.int .i64)] a) h (fun vs h' => (decL [(.int .i64)] vs).bind fun x => some (x, h')) := by kernel_rfl
set_option maxRecDepth 100000 in
theorem intent_Ring_Release.told {C : FuncId → Bool} {X : CallF} (hX : XOk C X) (k : Nat) : Den.Told Try.prog C X 46 [.ptr, (.int .i64), (.int .i64)] [(.int .i64)] (fun a h => intent_Ring_Release.f k (a.1) (a.2.1) (a.2.2) h) :=
  told_of fun a h q e => fn_of (c := intent_Ring_Release.body) (intent_Ring_Release.TS hX k) Try.func46 (by kernel_rfl) (hX.no 46 _ h (by decide))
    (by
      have e : need (intent_Ring_Release.an k) intent_Ring_Release.body 1 = [(Code.loop intent_Ring_Release.c58, lrun [(0, .ptr), (1, (.int .i64)), (2, (.int .i64)), (13, .agg), (7, (.int .i64)), (14, (.int .i64))] none [(7, (.int .i64))] 0 (fun a h => intent_Ring_Release.l0 k k (a.1) (a.2.1) (a.2.2.1) (a.2.2.2.1) (a.2.2.2.2.1) (a.2.2.2.2.2) h))] := by kernel_rfl
      rw [e]; intro q hq
      rcases List.mem_cons.1 hq with rfl | hq
      · exact intent_Ring_Release.l0_pass hX k k
      cases hq)
    ((intent_Ring_Release.eq k a h).symm.trans e)
/-! ### (*corbel/intent.Ring).Live$1 -/
noncomputable def intent_Ring_Live_1.f (k : Nat) (a0 : (Bool × Int × Int × Int × Sl)) (a1 : (Bool × Int × Int × Int × Sl)) (h : H) : Option ((Int) × H) :=
  (asI .i64 (ldc (newR (newR h 96 5 [(Value.bool a0.1), (Value.int .i64 a0.2.1), (Value.int .i64 a0.2.2.1), (Value.int .i64 a0.2.2.2.1), (Value.slice a0.2.2.2.2.a a0.2.2.2.2.n a0.2.2.2.2.c)]) 96 5 [(Value.bool a1.1), (Value.int .i64 a1.2.1), (Value.int .i64 a1.2.2.1), (Value.int .i64 a1.2.2.2.1), (Value.slice a1.2.2.2.2.a a1.2.2.2.2.n a1.2.2.2.2.c)]) (some ⟨h.next, 1, none⟩))).bind fun n1 =>
    (asI .i64 (ldc (newR (newR h 96 5 [(Value.bool a0.1), (Value.int .i64 a0.2.1), (Value.int .i64 a0.2.2.1), (Value.int .i64 a0.2.2.2.1), (Value.slice a0.2.2.2.2.a a0.2.2.2.2.n a0.2.2.2.2.c)]) 96 5 [(Value.bool a1.1), (Value.int .i64 a1.2.1), (Value.int .i64 a1.2.2.1), (Value.int .i64 a1.2.2.2.1), (Value.slice a1.2.2.2.2.a a1.2.2.2.2.n a1.2.2.2.2.c)]) (some ⟨(newR h 96 5 [(Value.bool a0.1), (Value.int .i64 a0.2.1), (Value.int .i64 a0.2.2.1), (Value.int .i64 a0.2.2.2.1), (Value.slice a0.2.2.2.2.a a0.2.2.2.2.n a0.2.2.2.2.c)]).next, 1, none⟩))).bind fun n2 =>
    some (wrapA .i64 (n1 - n2), (newR (newR h 96 5 [(Value.bool a0.1), (Value.int .i64 a0.2.1), (Value.int .i64 a0.2.2.1), (Value.int .i64 a0.2.2.2.1), (Value.slice a0.2.2.2.2.a a0.2.2.2.2.n a0.2.2.2.2.c)]) 96 5 [(Value.bool a1.1), (Value.int .i64 a1.2.1), (Value.int .i64 a1.2.2.1), (Value.int .i64 a1.2.2.2.1), (Value.slice a1.2.2.2.2.a a1.2.2.2.2.n a1.2.2.2.2.c)]))
noncomputable def intent_Ring_Live_1.T (k : Nat) : Tbl := tblOf []
noncomputable def intent_Ring_Live_1.an (k : Nat) (p : Nat) : Option Ann := none
noncomputable def intent_Ring_Live_1.body : Code := (Try.f68.body).getD .skip
set_option maxRecDepth 100000 in
theorem intent_Ring_Live_1.TS {C : FuncId → Bool} {X : CallF} (hX : XOk C X) (k : Nat) : TblS Try.prog C X (intent_Ring_Live_1.T k) := by
  refine tblOf_sound ?_
  intro e he
  exact absurd he List.not_mem_nil
set_option maxRecDepth 100000 in
theorem intent_Ring_Live_1.eq (k : Nat) (a : RT [(.st [.bool, (.int .i64), (.int .i64), (.int .i64), .sl]), (.st [.bool, (.int .i64), (.int .i64), (.int .i64), .sl])]) (h : H) : (fun a h => intent_Ring_Live_1.f k (a.1) (a.2) h) a h = kfun Try.prog (intent_Ring_Live_1.T k) (intent_Ring_Live_1.an k) (RT [(.int .i64)] × H) Try.f68 (encL [(.st [.bool, (.int .i64), (.int .i64), (.int .i64), .sl]), (.st [.bool, (.int .i64), (.int .i64), (.int .i64), .sl])] a) h (fun vs h' => (decL [(.int .i64)] vs).bind fun x => some (x, h')) := by kernel_rfl
set_option maxRecDepth 100000 in
theorem intent_Ring_Live_1.told {C : FuncId → Bool} {X : CallF} (hX : XOk C X) (k : Nat) : Den.Told Try.prog C X 68 [(.st [.bool, (.int .i64), (.int .i64), (.int .i64), .sl]), (.st [.bool, (.int .i64), (.int .i64), (.int .i64), .sl])] [(.int .i64)] (fun a h => intent_Ring_Live_1.f k (a.1) (a.2) h) :=
  told_of fun a h q e => fn_of (c := intent_Ring_Live_1.body) (intent_Ring_Live_1.TS hX k) Try.func68 (by kernel_rfl) (hX.no 68 _ h (by decide))
    (by
      have e : need (intent_Ring_Live_1.an k) intent_Ring_Live_1.body 1 = [] := by kernel_rfl
      rw [e]; intro q hq; cases hq)
    ((intent_Ring_Live_1.eq k a h).symm.trans e)
/-! ### slices.insertionSortCmpFunc[corbel/intent.slot] -/
noncomputable def slices_insertionSortCmpFunc_intent_slot_intent_Ring_Live_1.l1 (k : Nat) (n : Nat) : Sl → Int → Int → Unit → Int → Int → H → Option ((Unit) × H) :=
  Nat.rec (motive := fun _ => Sl → Int → Int → Unit → Int → Int → H → Option ((Unit) × H)) (fun _ _ _ _ _ _ _ => none) (fun _ ih x7 x8 x9 x10 x11 x12 h13 => (cond (decide (x12 > x8)) ((asP (ixs 5 x7.a x7.n x12)).bind fun p182 =>
    (asSt [.bool, (.int .i64), (.int .i64), (.int .i64), .sl] (lda 5 h13 p182)).bind fun s183 =>
    (asP (ixs 5 x7.a x7.n (wrapA .i64 (x12 - (1 : Int))))).bind fun p184 =>
    (asSt [.bool, (.int .i64), (.int .i64), (.int .i64), .sl] (lda 5 h13 p184)).bind fun s185 =>
    (intent_Ring_Live_1.f k (s183.1, s183.2.1, s183.2.2.1, s183.2.2.2.1, s183.2.2.2.2) (s185.1, s185.2.1, s185.2.2.1, s185.2.2.2.1, s185.2.2.2.2) h13).bind fun q186 =>
    some (decide (q186.1 < (0 : Int)), q186.2, [], []))
      (some (false, h13, [], [])) : Option (Bool × H × LEs × EFs)).bind fun g187 =>
    cond g187.1
      ((asP (ixs 5 x7.a x7.n (wrapA .i64 (x12 - (1 : Int))))).bind fun p188 =>
    (asSt [.bool, (.int .i64), (.int .i64), (.int .i64), .sl] (lda 5 g187.2.1 p188)).bind fun s189 =>
    (asP (ixs 5 x7.a x7.n x12)).bind fun p190 =>
    (asSt [.bool, (.int .i64), (.int .i64), (.int .i64), .sl] (lda 5 g187.2.1 p190)).bind fun s191 =>
    (asP (ixs 5 x7.a x7.n x12)).bind fun p192 =>
    (stv 5 g187.2.1 p192 [(Value.bool s189.1), (Value.int .i64 s189.2.1), (Value.int .i64 s189.2.2.1), (Value.int .i64 s189.2.2.2.1), (Value.slice s189.2.2.2.2.a s189.2.2.2.2.n s189.2.2.2.2.c)]).bind fun q193 =>
    (asP (ixs 5 x7.a x7.n (wrapA .i64 (x12 - (1 : Int))))).bind fun p194 =>
    (stv 5 q193.2 p194 [(Value.bool s191.1), (Value.int .i64 s191.2.1), (Value.int .i64 s191.2.2.1), (Value.int .i64 s191.2.2.2.1), (Value.slice s191.2.2.2.2.a s191.2.2.2.2.n s191.2.2.2.2.c)]).bind fun q195 =>
    ih x7 x8 x9 () x11 (wrapA .i64 (x12 - (1 : Int))) q195.2)
      (some ((), g187.2.1))) n
theorem slices_insertionSortCmpFunc_intent_slot_intent_Ring_Live_1.l1_zero (k : Nat) (x7 : Sl) (x8 : Int) (x9 : Int) (x10 : Unit) (x11 : Int) (x12 : Int) (h13 : H) : slices_insertionSortCmpFunc_intent_slot_intent_Ring_Live_1.l1 k 0 x7 x8 x9 x10 x11 x12 h13 = none := rfl
theorem slices_insertionSortCmpFunc_intent_slot_intent_Ring_Live_1.l1_succ (k n : Nat) (x7 : Sl) (x8 : Int) (x9 : Int) (x10 : Unit) (x11 : Int) (x12 : Int) (h13 : H) : slices_insertionSortCmpFunc_intent_slot_intent_Ring_Live_1.l1 k (n + 1) x7 x8 x9 x10 x11 x12 h13 = ((cond (decide (x12 > x8)) ((asP (ixs 5 x7.a x7.n x12)).bind fun p182 =>
    (asSt [.bool, (.int .i64), (.int .i64), (.int .i64), .sl] (lda 5 h13 p182)).bind fun s183 =>
    (asP (ixs 5 x7.a x7.n (wrapA .i64 (x12 - (1 : Int))))).bind fun p184 =>
    (asSt [.bool, (.int .i64), (.int .i64), (.int .i64), .sl] (lda 5 h13 p184)).bind fun s185 =>
    (intent_Ring_Live_1.f k (s183.1, s183.2.1, s183.2.2.1, s183.2.2.2.1, s183.2.2.2.2) (s185.1, s185.2.1, s185.2.2.1, s185.2.2.2.1, s185.2.2.2.2) h13).bind fun q186 =>
    some (decide (q186.1 < (0 : Int)), q186.2, [], []))
      (some (false, h13, [], [])) : Option (Bool × H × LEs × EFs)).bind fun g187 =>
    cond g187.1
      ((asP (ixs 5 x7.a x7.n (wrapA .i64 (x12 - (1 : Int))))).bind fun p188 =>
    (asSt [.bool, (.int .i64), (.int .i64), (.int .i64), .sl] (lda 5 g187.2.1 p188)).bind fun s189 =>
    (asP (ixs 5 x7.a x7.n x12)).bind fun p190 =>
    (asSt [.bool, (.int .i64), (.int .i64), (.int .i64), .sl] (lda 5 g187.2.1 p190)).bind fun s191 =>
    (asP (ixs 5 x7.a x7.n x12)).bind fun p192 =>
    (stv 5 g187.2.1 p192 [(Value.bool s189.1), (Value.int .i64 s189.2.1), (Value.int .i64 s189.2.2.1), (Value.int .i64 s189.2.2.2.1), (Value.slice s189.2.2.2.2.a s189.2.2.2.2.n s189.2.2.2.2.c)]).bind fun q193 =>
    (asP (ixs 5 x7.a x7.n (wrapA .i64 (x12 - (1 : Int))))).bind fun p194 =>
    (stv 5 q193.2 p194 [(Value.bool s191.1), (Value.int .i64 s191.2.1), (Value.int .i64 s191.2.2.1), (Value.int .i64 s191.2.2.2.1), (Value.slice s191.2.2.2.2.a s191.2.2.2.2.n s191.2.2.2.2.c)]).bind fun q195 =>
    slices_insertionSortCmpFunc_intent_slot_intent_Ring_Live_1.l1 k n x7 x8 x9 () x11 (wrapA .i64 (x12 - (1 : Int))) q195.2)
      (some ((), g187.2.1))) := rfl
noncomputable def slices_insertionSortCmpFunc_intent_slot_intent_Ring_Live_1.l0 (k : Nat) (n : Nat) : Sl → Int → Int → Unit → Int → H → Option ((Unit) × H) :=
  Nat.rec (motive := fun _ => Sl → Int → Int → Unit → Int → H → Option ((Unit) × H)) (fun _ _ _ _ _ _ => none) (fun _ ih x1 x2 x3 x4 x5 h6 => cond (decide (x5 < x3))
      ((slices_insertionSortCmpFunc_intent_slot_intent_Ring_Live_1.l1 k k x1 x2 x3 () x5 x5 h6).bind fun w196 =>
    ih x1 x2 x3 () (wrapA .i64 (x5 + (1 : Int))) w196.2)
      (some ((), h6))) n
theorem slices_insertionSortCmpFunc_intent_slot_intent_Ring_Live_1.l0_zero (k : Nat) (x1 : Sl) (x2 : Int) (x3 : Int) (x4 : Unit) (x5 : Int) (h6 : H) : slices_insertionSortCmpFunc_intent_slot_intent_Ring_Live_1.l0 k 0 x1 x2 x3 x4 x5 h6 = none := rfl
theorem slices_insertionSortCmpFunc_intent_slot_intent_Ring_Live_1.l0_succ (k n : Nat) (x1 : Sl) (x2 : Int) (x3 : Int) (x4 : Unit) (x5 : Int) (h6 : H) : slices_insertionSortCmpFunc_intent_slot_intent_Ring_Live_1.l0 k (n + 1) x1 x2 x3 x4 x5 h6 = (cond (decide (x5 < x3))
      ((slices_insertionSortCmpFunc_intent_slot_intent_Ring_Live_1.l1 k k x1 x2 x3 () x5 x5 h6).bind fun w196 =>
    slices_insertionSortCmpFunc_intent_slot_intent_Ring_Live_1.l0 k n x1 x2 x3 () (wrapA .i64 (x5 + (1 : Int))) w196.2)
      (some ((), h6))) := rfl
noncomputable def slices_insertionSortCmpFunc_intent_slot_intent_Ring_Live_1.f (k : Nat) (a0 : Sl) (a1 : Int) (a2 : Int) (a3 : Unit) (h : H) : Option ((Unit) × H) :=
  (slices_insertionSortCmpFunc_intent_slot_intent_Ring_Live_1.l0 k k a0 a1 a2 () (wrapA .i64 (a1 + (1 : Int))) h).bind fun w197 =>
    some ((), w197.2)
noncomputable def slices_insertionSortCmpFunc_intent_slot_intent_Ring_Live_1.T (k : Nat) : Tbl := tblOf [⟨68, anyArgs, wr [(.st [.bool, (.int .i64), (.int .i64), (.int .i64), .sl]), (.st [.bool, (.int .i64), (.int .i64), (.int .i64), .sl])] [(.int .i64)] (fun a h => intent_Ring_Live_1.f k (a.1) (a.2) h)⟩]
noncomputable def slices_insertionSortCmpFunc_intent_slot_intent_Ring_Live_1.an (k : Nat) (p : Nat) : Option Ann := cond (Nat.beq p 6) (some (.pass [] (lrun [(0, .sl), (1, (.int .i64)), (2, (.int .i64)), (3, (.fn 68 0)), (8, (.int .i64))] none [] 0 (fun a h => slices_insertionSortCmpFunc_intent_slot_intent_Ring_Live_1.l0 k k (a.1) (a.2.1) (a.2.2.1) (a.2.2.2.1) (a.2.2.2.2) h))))
  (cond (Nat.beq p 402) (some (.pass [0, 1, 2, 3, 8] (lrun [(0, .sl), (1, (.int .i64)), (2, (.int .i64)), (3, (.fn 68 0)), (8, (.int .i64)), (9, (.int .i64))] none [] 2 (fun a h => slices_insertionSortCmpFunc_intent_slot_intent_Ring_Live_1.l1 k k (a.1) (a.2.1) (a.2.2.1) (a.2.2.2.1) (a.2.2.2.2.1) (a.2.2.2.2.2) h))))
  (none))
noncomputable def slices_insertionSortCmpFunc_intent_slot_intent_Ring_Live_1.body : Code := (Try.f73.body).getD .skip
noncomputable def slices_insertionSortCmpFunc_intent_slot_intent_Ring_Live_1.c6 : Code := cat slices_insertionSortCmpFunc_intent_slot_intent_Ring_Live_1.body [1, 0, 0]
noncomputable def slices_insertionSortCmpFunc_intent_slot_intent_Ring_Live_1.c402 : Code := cat slices_insertionSortCmpFunc_intent_slot_intent_Ring_Live_1.body [1, 0, 0, 1, 0, 0, 1, 0, 0]
set_option maxRecDepth 100000 in
theorem slices_insertionSortCmpFunc_intent_slot_intent_Ring_Live_1.TS {C : FuncId → Bool} {X : CallF} (hX : XOk C X) (k : Nat) : TblS Try.prog C X (slices_insertionSortCmpFunc_intent_slot_intent_Ring_Live_1.T k) := by
  refine tblOf_sound ?_
  intro e he
  rcases List.mem_cons.1 he with rfl | he
  · exact wr_told (intent_Ring_Live_1.told hX k)
  exact absurd he List.not_mem_nil
set_option maxRecDepth 100000 in
theorem slices_insertionSortCmpFunc_intent_slot_intent_Ring_Live_1.l1_pass {C : FuncId → Bool} {X : CallF} (hX : XOk C X) (k n : Nat) : PassS Try.prog C X 53 (.loop slices_insertionSortCmpFunc_intent_slot_intent_Ring_Live_1.c402) (lrun [(0, .sl), (1, (.int .i64)), (2, (.int .i64)), (3, (.fn 68 0)), (8, (.int .i64)), (9, (.int .i64))] none [] 2 (fun a h => slices_insertionSortCmpFunc_intent_slot_intent_Ring_Live_1.l1 k n (a.1) (a.2.1) (a.2.2.1) (a.2.2.2.1) (a.2.2.2.2.1) (a.2.2.2.2.2) h)) :=
  loop_pass (ins := [(0, .sl), (1, (.int .i64)), (2, (.int .i64)), (3, (.fn 68 0)), (8, (.int .i64)), (9, (.int .i64))]) (rets := none) (outs := []) (id := 2) (tbl := slices_insertionSortCmpFunc_intent_slot_intent_Ring_Live_1.T k) (an := slices_insertionSortCmpFunc_intent_slot_intent_Ring_Live_1.an k) (pb := 804) (slices_insertionSortCmpFunc_intent_slot_intent_Ring_Live_1.TS hX k) (fun n => (fun a h => slices_insertionSortCmpFunc_intent_slot_intent_Ring_Live_1.l1 k n (a.1) (a.2.1) (a.2.2.1) (a.2.2.2.1) (a.2.2.2.2.1) (a.2.2.2.2.2) h)) (fun a h => rfl) (fun n a h => by kernel_rfl)
    (by
      have e : need (slices_insertionSortCmpFunc_intent_slot_intent_Ring_Live_1.an k) slices_insertionSortCmpFunc_intent_slot_intent_Ring_Live_1.c402 804 = [] := by kernel_rfl
      rw [e]; intro q hq; cases hq) n
set_option maxRecDepth 100000 in
theorem slices_insertionSortCmpFunc_intent_slot_intent_Ring_Live_1.l0_pass {C : FuncId → Bool} {X : CallF} (hX : XOk C X) (k n : Nat) : PassS Try.prog C X 53 (.loop slices_insertionSortCmpFunc_intent_slot_intent_Ring_Live_1.c6) (lrun [(0, .sl), (1, (.int .i64)), (2, (.int .i64)), (3, (.fn 68 0)), (8, (.int .i64))] none [] 0 (fun a h => slices_insertionSortCmpFunc_intent_slot_intent_Ring_Live_1.l0 k n (a.1) (a.2.1) (a.2.2.1) (a.2.2.2.1) (a.2.2.2.2) h)) :=
  loop_pass (ins := [(0, .sl), (1, (.int .i64)), (2, (.int .i64)), (3, (.fn 68 0)), (8, (.int .i64))]) (rets := none) (outs := []) (id := 0) (tbl := slices_insertionSortCmpFunc_intent_slot_intent_Ring_Live_1.T k) (an := slices_insertionSortCmpFunc_intent_slot_intent_Ring_Live_1.an k) (pb := 12) (slices_insertionSortCmpFunc_intent_slot_intent_Ring_Live_1.TS hX k) (fun n => (fun a h => slices_insertionSortCmpFunc_intent_slot_intent_Ring_Live_1.l0 k n (a.1) (a.2.1) (a.2.2.1) (a.2.2.2.1) (a.2.2.2.2) h)) (fun a h => rfl) (fun n a h => by kernel_rfl)
    (by
      have e : need (slices_insertionSortCmpFunc_intent_slot_intent_Ring_Live_1.an k) slices_insertionSortCmpFunc_intent_slot_intent_Ring_Live_1.c6 12 = [(Code.loop slices_insertionSortCmpFunc_intent_slot_intent_Ring_Live_1.c402, lrun [(0, .sl), (1, (.int .i64)), (2, (.int .i64)), (3, (.fn 68 0)), (8, (.int .i64)), (9, (.int .i64))] none [] 2 (fun a h => slices_insertionSortCmpFunc_intent_slot_intent_Ring_Live_1.l1 k k (a.1) (a.2.1) (a.2.2.1) (a.2.2.2.1) (a.2.2.2.2.1) (a.2.2.2.2.2) h))] := by kernel_rfl
      rw [e]; intro q hq
      rcases List.mem_cons.1 hq with rfl | hq
      · exact slices_insertionSortCmpFunc_intent_slot_intent_Ring_Live_1.l1_pass hX k k
      cases hq) n
set_option maxRecDepth 100000 in
theorem slices_insertionSortCmpFunc_intent_slot_intent_Ring_Live_1.eq (k : Nat) (a : RT [.sl, (.int .i64), (.int .i64), (.fn 68 0)]) (h : H) : (fun a h => slices_insertionSortCmpFunc_intent_slot_intent_Ring_Live_1.f k (a.1) (a.2.1) (a.2.2.1) (a.2.2.2) h) a h = kfun Try.prog (slices_insertionSortCmpFunc_intent_slot_intent_Ring_Live_1.T k) (slices_insertionSortCmpFunc_intent_slot_intent_Ring_Live_1.an k) (RT [] × H) Try.f73 (encL [.sl, (.int .i64), (.int .i64), (.fn 68 0)] a) h (fun vs h' => (decL [] vs).bind fun x => some (x, h')) := by kernel_rfl
set_option maxRecDepth 100000 in
theorem slices_insertionSortCmpFunc_intent_slot_intent_Ring_Live_1.told {C : FuncId → Bool} {X : CallF} (hX : XOk C X) (k : Nat) : Den.Told Try.prog C X 73 [.sl, (.int .i64), (.int .i64), (.fn 68 0)] [] (fun a h => slices_insertionSortCmpFunc_intent_slot_intent_Ring_Live_1.f k (a.1) (a.2.1) (a.2.2.1) (a.2.2.2) h) :=
  told_of fun a h q e => fn_of (c := slices_insertionSortCmpFunc_intent_slot_intent_Ring_Live_1.body) (slices_insertionSortCmpFunc_intent_slot_intent_Ring_Live_1.TS hX k) Try.func73 (by kernel_rfl) (hX.no 73 _ h (by decide))
    (by
      have e : need (slices_insertionSortCmpFunc_intent_slot_intent_Ring_Live_1.an k) slices_insertionSortCmpFunc_intent_slot_intent_Ring_Live_1.body 1 = [(Code.loop slices_insertionSortCmpFunc_intent_slot_intent_Ring_Live_1.c6, lrun [(0, .sl), (1, (.int .i64)), (2, (.int .i64)), (3, (.fn 68 0)), (8, (.int .i64))] none [] 0 (fun a h => slices_insertionSortCmpFunc_intent_slot_intent_Ring_Live_1.l0 k k (a.1) (a.2.1) (a.2.2.1) (a.2.2.2.1) (a.2.2.2.2) h))] := by kernel_rfl
      rw [e]; intro q hq
      rcases List.mem_cons.1 hq with rfl | hq
      · exact slices_insertionSortCmpFunc_intent_slot_intent_Ring_Live_1.l0_pass hX k k
      cases hq)
    ((slices_insertionSortCmpFunc_intent_slot_intent_Ring_Live_1.eq k a h).symm.trans e)
/-! ### slices.swapRangeCmpFunc[corbel/intent.slot] -/
noncomputable def slices_swapRangeCmpFunc_intent_slot_intent_Ring_Live_1.l0 (k : Nat) (n : Nat) : Sl → Int → Int → Int → Int → H → Option ((Unit) × H) :=
  Nat.rec (motive := fun _ => Sl → Int → Int → Int → Int → H → Option ((Unit) × H)) (fun _ _ _ _ _ _ => none) (fun _ ih x1 x2 x3 x4 x5 h6 => cond (decide (x5 < x4))
      ((asP (ixs 5 x1.a x1.n (wrapA .i64 (x3 + x5)))).bind fun p7 =>
    (asSt [.bool, (.int .i64), (.int .i64), (.int .i64), .sl] (lda 5 h6 p7)).bind fun s8 =>
    (asP (ixs 5 x1.a x1.n (wrapA .i64 (x2 + x5)))).bind fun p9 =>
    (asSt [.bool, (.int .i64), (.int .i64), (.int .i64), .sl] (lda 5 h6 p9)).bind fun s10 =>
    (asP (ixs 5 x1.a x1.n (wrapA .i64 (x2 + x5)))).bind fun p11 =>
    (stv 5 h6 p11 [(Value.bool s8.1), (Value.int .i64 s8.2.1), (Value.int .i64 s8.2.2.1), (Value.int .i64 s8.2.2.2.1), (Value.slice s8.2.2.2.2.a s8.2.2.2.2.n s8.2.2.2.2.c)]).bind fun q12 =>
    (asP (ixs 5 x1.a x1.n (wrapA .i64 (x3 + x5)))).bind fun p13 =>
    (stv 5 q12.2 p13 [(Value.bool s10.1), (Value.int .i64 s10.2.1), (Value.int .i64 s10.2.2.1), (Value.int .i64 s10.2.2.2.1), (Value.slice s10.2.2.2.2.a s10.2.2.2.2.n s10.2.2.2.2.c)]).bind fun q14 =>
    ih x1 x2 x3 x4 (wrapA .i64 (x5 + (1 : Int))) q14.2)
      (some ((), h6))) n
theorem slices_swapRangeCmpFunc_intent_slot_intent_Ring_Live_1.l0_zero (k : Nat) (x1 : Sl) (x2 : Int) (x3 : Int) (x4 : Int) (x5 : Int) (h6 : H) : slices_swapRangeCmpFunc_intent_slot_intent_Ring_Live_1.l0 k 0 x1 x2 x3 x4 x5 h6 = none := rfl
theorem slices_swapRangeCmpFunc_intent_slot_intent_Ring_Live_1.l0_succ (k n : Nat) (x1 : Sl) (x2 : Int) (x3 : Int) (x4 : Int) (x5 : Int) (h6 : H) : slices_swapRangeCmpFunc_intent_slot_intent_Ring_Live_1.l0 k (n + 1) x1 x2 x3 x4 x5 h6 = (cond (decide (x5 < x4))
      ((asP (ixs 5 x1.a x1.n (wrapA .i64 (x3 + x5)))).bind fun p7 =>
    (asSt [.bool, (.int .i64), (.int .i64), (.int .i64), .sl] (lda 5 h6 p7)).bind fun s8 =>
    (asP (ixs 5 x1.a x1.n (wrapA .i64 (x2 + x5)))).bind fun p9 =>
    (asSt [.bool, (.int .i64), (.int .i64), (.int .i64), .sl] (lda 5 h6 p9)).bind fun s10 =>
    (asP (ixs 5 x1.a x1.n (wrapA .i64 (x2 + x5)))).bind fun p11 =>
    (stv 5 h6 p11 [(Value.bool s8.1), (Value.int .i64 s8.2.1), (Value.int .i64 s8.2.2.1), (Value.int .i64 s8.2.2.2.1), (Value.slice s8.2.2.2.2.a s8.2.2.2.2.n s8.2.2.2.2.c)]).bind fun q12 =>
    (asP (ixs 5 x1.a x1.n (wrapA .i64 (x3 + x5)))).bind fun p13 =>
    (stv 5 q12.2 p13 [(Value.bool s10.1), (Value.int .i64 s10.2.1), (Value.int .i64 s10.2.2.1), (Value.int .i64 s10.2.2.2.1), (Value.slice s10.2.2.2.2.a s10.2.2.2.2.n s10.2.2.2.2.c)]).bind fun q14 =>
    slices_swapRangeCmpFunc_intent_slot_intent_Ring_Live_1.l0 k n x1 x2 x3 x4 (wrapA .i64 (x5 + (1 : Int))) q14.2)
      (some ((), h6))) := rfl
noncomputable def slices_swapRangeCmpFunc_intent_slot_intent_Ring_Live_1.f (k : Nat) (a0 : Sl) (a1 : Int) (a2 : Int) (a3 : Int) (a4 : Unit) (h : H) : Option ((Unit) × H) :=
  (slices_swapRangeCmpFunc_intent_slot_intent_Ring_Live_1.l0 k k a0 a1 a2 a3 (0 : Int) h).bind fun w15 =>
    some ((), w15.2)
noncomputable def slices_swapRangeCmpFunc_intent_slot_intent_Ring_Live_1.T (k : Nat) : Tbl := tblOf []
noncomputable def slices_swapRangeCmpFunc_intent_slot_intent_Ring_Live_1.an (k : Nat) (p : Nat) : Option Ann := cond (Nat.beq p 6) (some (.pass [] (lrun [(0, .sl), (1, (.int .i64)), (2, (.int .i64)), (3, (.int .i64)), (10, (.int .i64))] none [] 0 (fun a h => slices_swapRangeCmpFunc_intent_slot_intent_Ring_Live_1.l0 k k (a.1) (a.2.1) (a.2.2.1) (a.2.2.2.1) (a.2.2.2.2) h))))
  (none)
noncomputable def slices_swapRangeCmpFunc_intent_slot_intent_Ring_Live_1.body : Code := (Try.f76.body).getD .skip
noncomputable def slices_swapRangeCmpFunc_intent_slot_intent_Ring_Live_1.c6 : Code := cat slices_swapRangeCmpFunc_intent_slot_intent_Ring_Live_1.body [1, 0, 0]
set_option maxRecDepth 100000 in
theorem slices_swapRangeCmpFunc_intent_slot_intent_Ring_Live_1.TS {C : FuncId → Bool} {X : CallF} (hX : XOk C X) (k : Nat) : TblS Try.prog C X (slices_swapRangeCmpFunc_intent_slot_intent_Ring_Live_1.T k) := by
  refine tblOf_sound ?_
  intro e he
  exact absurd he List.not_mem_nil
set_option maxRecDepth 100000 in
theorem slices_swapRangeCmpFunc_intent_slot_intent_Ring_Live_1.l0_pass {C : FuncId → Bool} {X : CallF} (hX : XOk C X) (k n : Nat) : PassS Try.prog C X 38 (.loop slices_swapRangeCmpFunc_intent_slot_intent_Ring_Live_1.c6) (lrun [(0, .sl), (1, (.int .i64)), (2, (.int .i64)), (3, (.int .i64)), (10, (.int .i64))] none [] 0 (fun a h => slices_swapRangeCmpFunc_intent_slot_intent_Ring_Live_1.l0 k n (a.1) (a.2.1) (a.2.2.1) (a.2.2.2.1) (a.2.2.2.2) h)) :=
  loop_pass (ins := [(0, .sl), (1, (.int .i64)), (2, (.int .i64)), (3, (.int .i64)), (10, (.int .i64))]) (rets := none) (outs := []) (id := 0) (tbl := slices_swapRangeCmpFunc_intent_slot_intent_Ring_Live_1.T k) (an := slices_swapRangeCmpFunc_intent_slot_intent_Ring_Live_1.an k) (pb := 12) (slices_swapRangeCmpFunc_intent_slot_intent_Ring_Live_1.TS hX k) (fun n => (fun a h => slices_swapRangeCmpFunc_intent_slot_intent_Ring_Live_1.l0 k n (a.1) (a.2.1) (a.2.2.1) (a.2.2.2.1) (a.2.2.2.2) h)) (fun a h => rfl) (fun n a h => by kernel_rfl)
    (by
      have e : need (slices_swapRangeCmpFunc_intent_slot_intent_Ring_Live_1.an k) slices_swapRangeCmpFunc_intent_slot_intent_Ring_Live_1.c6 12 = [] := by kernel_rfl
      rw [e]; intro q hq; cases hq) n
set_option maxRecDepth 100000 in
theorem slices_swapRangeCmpFunc_intent_slot_intent_Ring_Live_1.eq (k : Nat) (a : RT [.sl, (.int .i64), (.int .i64), (.int .i64), (.fn 68 0)]) (h : H) : (fun a h => slices_swapRangeCmpFunc_intent_slot_intent_Ring_Live_1.f k (a.1) (a.2.1) (a.2.2.1) (a.2.2.2.1) (a.2.2.2.2) h) a h = kfun Try.prog (slices_swapRangeCmpFunc_intent_slot_intent_Ring_Live_1.T k) (slices_swapRangeCmpFunc_intent_slot_intent_Ring_Live_1.an k) (RT [] × H) Try.f76 (encL [.sl, (.int .i64), (.int .i64), (.int .i64), (.fn 68 0)] a) h (fun vs h' => (decL [] vs).bind fun x => some (x, h')) := by kernel_rfl
set_option maxRecDepth 100000 in
theorem slices_swapRangeCmpFunc_intent_slot_intent_Ring_Live_1.told {C : FuncId → Bool} {X : CallF} (hX : XOk C X) (k : Nat) : Den.Told Try.prog C X 76 [.sl, (.int .i64), (.int .i64), (.int .i64), (.fn 68 0)] [] (fun a h => slices_swapRangeCmpFunc_intent_slot_intent_Ring_Live_1.f k (a.1) (a.2.1) (a.2.2.1) (a.2.2.2.1) (a.2.2.2.2) h) :=
  told_of fun a h q e => fn_of (c := slices_swapRangeCmpFunc_intent_slot_intent_Ring_Live_1.body) (slices_swapRangeCmpFunc_intent_slot_intent_Ring_Live_1.TS hX k) Try.func76 (by kernel_rfl) (hX.no 76 _ h (by decide))
    (by
      have e : need (slices_swapRangeCmpFunc_intent_slot_intent_Ring_Live_1.an k) slices_swapRangeCmpFunc_intent_slot_intent_Ring_Live_1.body 1 = [(Code.loop slices_swapRangeCmpFunc_intent_slot_intent_Ring_Live_1.c6, lrun [(0, .sl), (1, (.int .i64)), (2, (.int .i64)), (3, (.int .i64)), (10, (.int .i64))] none [] 0 (fun a h => slices_swapRangeCmpFunc_intent_slot_intent_Ring_Live_1.l0 k k (a.1) (a.2.1) (a.2.2.1) (a.2.2.2.1) (a.2.2.2.2) h))] := by kernel_rfl
      rw [e]; intro q hq
      rcases List.mem_cons.1 hq with rfl | hq
      · exact slices_swapRangeCmpFunc_intent_slot_intent_Ring_Live_1.l0_pass hX k k
      cases hq)
    ((slices_swapRangeCmpFunc_intent_slot_intent_Ring_Live_1.eq k a h).symm.trans e)
/-! ### slices.rotateCmpFunc[corbel/intent.slot] -/
noncomputable def slices_rotateCmpFunc_intent_slot_intent_Ring_Live_1.l0 (k : Nat) (n : Nat) : Sl → Int → Unit → Int → Int → H → Option ((Int) × H) :=
  Nat.rec (motive := fun _ => Sl → Int → Unit → Int → Int → H → Option ((Int) × H)) (fun _ _ _ _ _ _ => none) (fun _ ih x1 x2 x3 x4 x5 h6 => cond (x4 != x5)
      ((cond (decide (x4 > x5))
      ((slices_swapRangeCmpFunc_intent_slot_intent_Ring_Live_1.f k x1 (wrapA .i64 (x2 - x4)) x2 x5 () h6).bind fun q7 =>
    some ((wrapA .i64 (x4 - x5), x5), q7.2))
      ((slices_swapRangeCmpFunc_intent_slot_intent_Ring_Live_1.f k x1 (wrapA .i64 (x2 - x4)) (wrapA .i64 ((wrapA .i64 (x2 + x5)) - x4)) x4 () h6).bind fun q8 =>
    some ((x4, wrapA .i64 (x5 - x4)), q8.2)) : Option ((Int × Int) × H)).bind fun j9 =>
    ih x1 x2 () j9.1.1 j9.1.2 j9.2)
      (some (x4, h6))) n
theorem slices_rotateCmpFunc_intent_slot_intent_Ring_Live_1.l0_zero (k : Nat) (x1 : Sl) (x2 : Int) (x3 : Unit) (x4 : Int) (x5 : Int) (h6 : H) : slices_rotateCmpFunc_intent_slot_intent_Ring_Live_1.l0 k 0 x1 x2 x3 x4 x5 h6 = none := rfl
theorem slices_rotateCmpFunc_intent_slot_intent_Ring_Live_1.l0_succ (k n : Nat) (x1 : Sl) (x2 : Int) (x3 : Unit) (x4 : Int) (x5 : Int) (h6 : H) : slices_rotateCmpFunc_intent_slot_intent_Ring_Live_1.l0 k (n + 1) x1 x2 x3 x4 x5 h6 = (cond (x4 != x5)
      ((cond (decide (x4 > x5))
      ((slices_swapRangeCmpFunc_intent_slot_intent_Ring_Live_1.f k x1 (wrapA .i64 (x2 - x4)) x2 x5 () h6).bind fun q7 =>
    some ((wrapA .i64 (x4 - x5), x5), q7.2))
      ((slices_swapRangeCmpFunc_intent_slot_intent_Ring_Live_1.f k x1 (wrapA .i64 (x2 - x4)) (wrapA .i64 ((wrapA .i64 (x2 + x5)) - x4)) x4 () h6).bind fun q8 =>
    some ((x4, wrapA .i64 (x5 - x4)), q8.2)) : Option ((Int × Int) × H)).bind fun j9 =>
    slices_rotateCmpFunc_intent_slot_intent_Ring_Live_1.l0 k n x1 x2 () j9.1.1 j9.1.2 j9.2)
      (some (x4, h6))) := rfl
noncomputable def slices_rotateCmpFunc_intent_slot_intent_Ring_Live_1.f (k : Nat) (a0 : Sl) (a1 : Int) (a2 : Int) (a3 : Int) (a4 : Unit) (h : H) : Option ((Unit) × H) :=
  (slices_rotateCmpFunc_intent_slot_intent_Ring_Live_1.l0 k k a0 a2 () (wrapA .i64 (a2 - a1)) (wrapA .i64 (a3 - a2)) h).bind fun w10 =>
    (slices_swapRangeCmpFunc_intent_slot_intent_Ring_Live_1.f k a0 (wrapA .i64 (a2 - w10.1)) a2 w10.1 () w10.2).bind fun q11 =>
    some ((), q11.2)
noncomputable def slices_rotateCmpFunc_intent_slot_intent_Ring_Live_1.T (k : Nat) : Tbl := tblOf [⟨76, chkF [(4, 68)], wr [.sl, (.int .i64), (.int .i64), (.int .i64), (.fn 68 0)] [] (fun a h => slices_swapRangeCmpFunc_intent_slot_intent_Ring_Live_1.f k (a.1) (a.2.1) (a.2.2.1) (a.2.2.2.1) (a.2.2.2.2) h)⟩]
noncomputable def slices_rotateCmpFunc_intent_slot_intent_Ring_Live_1.an (k : Nat) (p : Nat) : Option Ann := cond (Nat.beq p 28) (some (.pass [0, 2, 4] (lrun [(0, .sl), (2, (.int .i64)), (4, (.fn 68 0)), (10, (.int .i64)), (11, (.int .i64))] none [(10, (.int .i64))] 0 (fun a h => slices_rotateCmpFunc_intent_slot_intent_Ring_Live_1.l0 k k (a.1) (a.2.1) (a.2.2.1) (a.2.2.2.1) (a.2.2.2.2) h))))
  (cond (Nat.beq p 453) (some (.join [0, 2, 4] none [(10, (.int .i64)), (11, (.int .i64))]))
  (none))
noncomputable def slices_rotateCmpFunc_intent_slot_intent_Ring_Live_1.body : Code := (Try.f75.body).getD .skip
noncomputable def slices_rotateCmpFunc_intent_slot_intent_Ring_Live_1.c28 : Code := cat slices_rotateCmpFunc_intent_slot_intent_Ring_Live_1.body [1, 1, 0, 0, 0]
set_option maxRecDepth 100000 in
theorem slices_rotateCmpFunc_intent_slot_intent_Ring_Live_1.TS {C : FuncId → Bool} {X : CallF} (hX : XOk C X) (k : Nat) : TblS Try.prog C X (slices_rotateCmpFunc_intent_slot_intent_Ring_Live_1.T k) := by
  refine tblOf_sound ?_
  intro e he
  rcases List.mem_cons.1 he with rfl | he
  · exact wr_told (slices_swapRangeCmpFunc_intent_slot_intent_Ring_Live_1.told hX k)
  exact absurd he List.not_mem_nil
set_option maxRecDepth 100000 in
theorem slices_rotateCmpFunc_intent_slot_intent_Ring_Live_1.l0_pass {C : FuncId → Bool} {X : CallF} (hX : XOk C X) (k n : Nat) : PassS Try.prog C X 58 (.loop slices_rotateCmpFunc_intent_slot_intent_Ring_Live_1.c28) (lrun [(0, .sl), (2, (.int .i64)), (4, (.fn 68 0)), (10, (.int .i64)), (11, (.int .i64))] none [(10, (.int .i64))] 0 (fun a h => slices_rotateCmpFunc_intent_slot_intent_Ring_Live_1.l0 k n (a.1) (a.2.1) (a.2.2.1) (a.2.2.2.1) (a.2.2.2.2) h)) :=
  loop_pass (ins := [(0, .sl), (2, (.int .i64)), (4, (.fn 68 0)), (10, (.int .i64)), (11, (.int .i64))]) (rets := none) (outs := [(10, (.int .i64))]) (id := 0) (tbl := slices_rotateCmpFunc_intent_slot_intent_Ring_Live_1.T k) (an := slices_rotateCmpFunc_intent_slot_intent_Ring_Live_1.an k) (pb := 56) (slices_rotateCmpFunc_intent_slot_intent_Ring_Live_1.TS hX k) (fun n => (fun a h => slices_rotateCmpFunc_intent_slot_intent_Ring_Live_1.l0 k n (a.1) (a.2.1) (a.2.2.1) (a.2.2.2.1) (a.2.2.2.2) h)) (fun a h => rfl) (fun n a h => by kernel_rfl)
    (by
      have e : need (slices_rotateCmpFunc_intent_slot_intent_Ring_Live_1.an k) slices_rotateCmpFunc_intent_slot_intent_Ring_Live_1.c28 56 = [] := by kernel_rfl
      rw [e]; intro q hq; cases hq) n
set_option maxRecDepth 100000 in
theorem slices_rotateCmpFunc_intent_slot_intent_Ring_Live_1.eq (k : Nat) (a : RT [.sl, (.int .i64), (.int .i64), (.int .i64), (.fn 68 0)]) (h : H) : (fun a h => slices_rotateCmpFunc_intent_slot_intent_Ring_Live_1.f k (a.1) (a.2.1) (a.2.2.1) (a.2.2.2.1) (a.2.2.2.2) h) a h = kfun Try.prog (slices_rotateCmpFunc_intent_slot_intent_Ring_Live_1.T k) (slices_rotateCmpFunc_intent_slot_intent_Ring_Live_1.an k) (RT [] × H) Try.f75 (encL [.sl, (.int .i64), (.int .i64), (.int .i64), (.fn 68 0)] a) h (fun vs h' => (decL [] vs).bind fun x => some (x, h')) := by kernel_rfl
set_option maxRecDepth 100000 in
theorem slices_rotateCmpFunc_intent_slot_intent_Ring_Live_1.told {C : FuncId → Bool} {X : CallF} (hX : XOk C X) (k : Nat) : Den.Told Try.prog C X 75 [.sl, (.int .i64), (.int .i64), (.int .i64), (.fn 68 0)] [] (fun a h => slices_rotateCmpFunc_intent_slot_intent_Ring_Live_1.f k (a.1) (a.2.1) (a.2.2.1) (a.2.2.2.1) (a.2.2.2.2) h) :=
  told_of fun a h q e => fn_of (c := slices_rotateCmpFunc_intent_slot_intent_Ring_Live_1.body) (slices_rotateCmpFunc_intent_slot_intent_Ring_Live_1.TS hX k) Try.func75 (by kernel_rfl) (hX.no 75 _ h (by decide))
    (by
      have e : need (slices_rotateCmpFunc_intent_slot_intent_Ring_Live_1.an k) slices_rotateCmpFunc_intent_slot_intent_Ring_Live_1.body 1 = [(Code.loop slices_rotateCmpFunc_intent_slot_intent_Ring_Live_1.c28, lrun [(0, .sl), (2, (.int .i64)), (4, (.fn 68 0)), (10, (.int .i64)), (11, (.int .i64))] none [(10, (.int .i64))] 0 (fun a h => slices_rotateCmpFunc_intent_slot_intent_Ring_Live_1.l0 k k (a.1) (a.2.1) (a.2.2.1) (a.2.2.2.1) (a.2.2.2.2) h))] := by kernel_rfl
      rw [e]; intro q hq
      rcases List.mem_cons.1 hq with rfl | hq
      · exact slices_rotateCmpFunc_intent_slot_intent_Ring_Live_1.l0_pass hX k k
      cases hq)
    ((slices_rotateCmpFunc_intent_slot_intent_Ring_Live_1.eq k a h).symm.trans e)
/-! ### slices.symMergeCmpFunc[corbel/intent.slot] -/
noncomputable def slices_symMergeCmpFunc_intent_slot_intent_Ring_Live_1.l3 (k : Nat) (n : Nat) : Sl → Int → Int → H → Option ((Unit) × H) :=
  Nat.rec (motive := fun _ => Sl → Int → Int → H → Option ((Unit) × H)) (fun _ _ _ _ => none) (fun _ ih x40 x41 x42 h43 => cond (decide (x42 > x41))
      ((asP (ixs 5 x40.a x40.n (wrapA .i64 (x42 - (1 : Int))))).bind fun p44 =>
    (asSt [.bool, (.int .i64), (.int .i64), (.int .i64), .sl] (lda 5 h43 p44)).bind fun s45 =>
    (asP (ixs 5 x40.a x40.n x42)).bind fun p46 =>
    (asSt [.bool, (.int .i64), (.int .i64), (.int .i64), .sl] (lda 5 h43 p46)).bind fun s47 =>
    (asP (ixs 5 x40.a x40.n x42)).bind fun p48 =>
    (stv 5 h43 p48 [(Value.bool s45.1), (Value.int .i64 s45.2.1), (Value.int .i64 s45.2.2.1), (Value.int .i64 s45.2.2.2.1), (Value.slice s45.2.2.2.2.a s45.2.2.2.2.n s45.2.2.2.2.c)]).bind fun q49 =>
    (asP (ixs 5 x40.a x40.n (wrapA .i64 (x42 - (1 : Int))))).bind fun p50 =>
    (stv 5 q49.2 p50 [(Value.bool s47.1), (Value.int .i64 s47.2.1), (Value.int .i64 s47.2.2.1), (Value.int .i64 s47.2.2.2.1), (Value.slice s47.2.2.2.2.a s47.2.2.2.2.n s47.2.2.2.2.c)]).bind fun q51 =>
    ih x40 x41 (wrapA .i64 (x42 - (1 : Int))) q51.2)
      (some ((), h43))) n
theorem slices_symMergeCmpFunc_intent_slot_intent_Ring_Live_1.l3_zero (k : Nat) (x40 : Sl) (x41 : Int) (x42 : Int) (h43 : H) : slices_symMergeCmpFunc_intent_slot_intent_Ring_Live_1.l3 k 0 x40 x41 x42 h43 = none := rfl
theorem slices_symMergeCmpFunc_intent_slot_intent_Ring_Live_1.l3_succ (k n : Nat) (x40 : Sl) (x41 : Int) (x42 : Int) (h43 : H) : slices_symMergeCmpFunc_intent_slot_intent_Ring_Live_1.l3 k (n + 1) x40 x41 x42 h43 = (cond (decide (x42 > x41))
      ((asP (ixs 5 x40.a x40.n (wrapA .i64 (x42 - (1 : Int))))).bind fun p44 =>
    (asSt [.bool, (.int .i64), (.int .i64), (.int .i64), .sl] (lda 5 h43 p44)).bind fun s45 =>
    (asP (ixs 5 x40.a x40.n x42)).bind fun p46 =>
    (asSt [.bool, (.int .i64), (.int .i64), (.int .i64), .sl] (lda 5 h43 p46)).bind fun s47 =>
    (asP (ixs 5 x40.a x40.n x42)).bind fun p48 =>
    (stv 5 h43 p48 [(Value.bool s45.1), (Value.int .i64 s45.2.1), (Value.int .i64 s45.2.2.1), (Value.int .i64 s45.2.2.2.1), (Value.slice s45.2.2.2.2.a s45.2.2.2.2.n s45.2.2.2.2.c)]).bind fun q49 =>
    (asP (ixs 5 x40.a x40.n (wrapA .i64 (x42 - (1 : Int))))).bind fun p50 =>
    (stv 5 q49.2 p50 [(Value.bool s47.1), (Value.int .i64 s47.2.1), (Value.int .i64 s47.2.2.1), (Value.int .i64 s47.2.2.2.1), (Value.slice s47.2.2.2.2.a s47.2.2.2.2.n s47.2.2.2.2.c)]).bind fun q51 =>
    slices_symMergeCmpFunc_intent_slot_intent_Ring_Live_1.l3 k n x40 x41 (wrapA .i64 (x42 - (1 : Int))) q51.2)
      (some ((), h43))) := rfl
noncomputable def slices_symMergeCmpFunc_intent_slot_intent_Ring_Live_1.l1 (k : Nat) (n : Nat) : Sl → Int → Int → H → Option ((Unit) × H) :=
  Nat.rec (motive := fun _ => Sl → Int → Int → H → Option ((Unit) × H)) (fun _ _ _ _ => none) (fun _ ih x14 x15 x16 h17 => cond (decide (x16 < (wrapA .i64 (x15 - (1 : Int)))))
      ((asP (ixs 5 x14.a x14.n (wrapA .i64 (x16 + (1 : Int))))).bind fun p18 =>
    (asSt [.bool, (.int .i64), (.int .i64), (.int .i64), .sl] (lda 5 h17 p18)).bind fun s19 =>
    (asP (ixs 5 x14.a x14.n x16)).bind fun p20 =>
    (asSt [.bool, (.int .i64), (.int .i64), (.int .i64), .sl] (lda 5 h17 p20)).bind fun s21 =>
    (asP (ixs 5 x14.a x14.n x16)).bind fun p22 =>
    (stv 5 h17 p22 [(Value.bool s19.1), (Value.int .i64 s19.2.1), (Value.int .i64 s19.2.2.1), (Value.int .i64 s19.2.2.2.1), (Value.slice s19.2.2.2.2.a s19.2.2.2.2.n s19.2.2.2.2.c)]).bind fun q23 =>
    (asP (ixs 5 x14.a x14.n (wrapA .i64 (x16 + (1 : Int))))).bind fun p24 =>
    (stv 5 q23.2 p24 [(Value.bool s21.1), (Value.int .i64 s21.2.1), (Value.int .i64 s21.2.2.1), (Value.int .i64 s21.2.2.2.1), (Value.slice s21.2.2.2.2.a s21.2.2.2.2.n s21.2.2.2.2.c)]).bind fun q25 =>
    ih x14 x15 (wrapA .i64 (x16 + (1 : Int))) q25.2)
      (some ((), h17))) n
theorem slices_symMergeCmpFunc_intent_slot_intent_Ring_Live_1.l1_zero (k : Nat) (x14 : Sl) (x15 : Int) (x16 : Int) (h17 : H) : slices_symMergeCmpFunc_intent_slot_intent_Ring_Live_1.l1 k 0 x14 x15 x16 h17 = none := rfl
theorem slices_symMergeCmpFunc_intent_slot_intent_Ring_Live_1.l1_succ (k n : Nat) (x14 : Sl) (x15 : Int) (x16 : Int) (h17 : H) : slices_symMergeCmpFunc_intent_slot_intent_Ring_Live_1.l1 k (n + 1) x14 x15 x16 h17 = (cond (decide (x16 < (wrapA .i64 (x15 - (1 : Int)))))
      ((asP (ixs 5 x14.a x14.n (wrapA .i64 (x16 + (1 : Int))))).bind fun p18 =>
    (asSt [.bool, (.int .i64), (.int .i64), (.int .i64), .sl] (lda 5 h17 p18)).bind fun s19 =>
    (asP (ixs 5 x14.a x14.n x16)).bind fun p20 =>
    (asSt [.bool, (.int .i64), (.int .i64), (.int .i64), .sl] (lda 5 h17 p20)).bind fun s21 =>
    (asP (ixs 5 x14.a x14.n x16)).bind fun p22 =>
    (stv 5 h17 p22 [(Value.bool s19.1), (Value.int .i64 s19.2.1), (Value.int .i64 s19.2.2.1), (Value.int .i64 s19.2.2.2.1), (Value.slice s19.2.2.2.2.a s19.2.2.2.2.n s19.2.2.2.2.c)]).bind fun q23 =>
    (asP (ixs 5 x14.a x14.n (wrapA .i64 (x16 + (1 : Int))))).bind fun p24 =>
    (stv 5 q23.2 p24 [(Value.bool s21.1), (Value.int .i64 s21.2.1), (Value.int .i64 s21.2.2.1), (Value.int .i64 s21.2.2.2.1), (Value.slice s21.2.2.2.2.a s21.2.2.2.2.n s21.2.2.2.2.c)]).bind fun q25 =>
    slices_symMergeCmpFunc_intent_slot_intent_Ring_Live_1.l1 k n x14 x15 (wrapA .i64 (x16 + (1 : Int))) q25.2)
      (some ((), h17))) := rfl
noncomputable def slices_symMergeCmpFunc_intent_slot_intent_Ring_Live_1.l4 (k : Nat) (n : Nat) : Sl → Int → Int → Int → Unit → Int → Int → Int → Int → Int → H → Option ((Int) × H) :=
  Nat.rec (motive := fun _ => Sl → Int → Int → Int → Unit → Int → Int → Int → Int → Int → H → Option ((Int) × H)) (fun _ _ _ _ _ _ _ _ _ _ _ => none) (fun _ ih x54 x55 x56 x57 x58 x59 x60 x61 x62 x63 h64 => cond (decide (x62 < x63))
      ((asP (ixs 5 x54.a x54.n (wrapA .i64 (x61 - (wrapA .i64 ((wrapA .u64 (wrapA .i64 (x62 + x63))).fdiv (2 ^ 1))))))).bind fun p65 =>
    (asSt [.bool, (.int .i64), (.int .i64), (.int .i64), .sl] (lda 5 h64 p65)).bind fun s66 =>
    (asP (ixs 5 x54.a x54.n (wrapA .i64 ((wrapA .u64 (wrapA .i64 (x62 + x63))).fdiv (2 ^ 1))))).bind fun p67 =>
    (asSt [.bool, (.int .i64), (.int .i64), (.int .i64), .sl] (lda 5 h64 p67)).bind fun s68 =>
    (intent_Ring_Live_1.f k (s66.1, s66.2.1, s66.2.2.1, s66.2.2.2.1, s66.2.2.2.2) (s68.1, s68.2.1, s68.2.2.1, s68.2.2.2.1, s68.2.2.2.2) h64).bind fun q69 =>
    (cond (!(decide (q69.1 < (0 : Int))))
      (some ((wrapA .i64 ((wrapA .i64 ((wrapA .u64 (wrapA .i64 (x62 + x63))).fdiv (2 ^ 1))) + (1 : Int)), x63), q69.2))
      (some ((x62, wrapA .i64 ((wrapA .u64 (wrapA .i64 (x62 + x63))).fdiv (2 ^ 1))), q69.2)) : Option ((Int × Int) × H)).bind fun j70 =>
    ih x54 x55 x56 x57 () x59 x60 x61 j70.1.1 j70.1.2 j70.2)
      (some (x62, h64))) n
theorem slices_symMergeCmpFunc_intent_slot_intent_Ring_Live_1.l4_zero (k : Nat) (x54 : Sl) (x55 : Int) (x56 : Int) (x57 : Int) (x58 : Unit) (x59 : Int) (x60 : Int) (x61 : Int) (x62 : Int) (x63 : Int) (h64 : H) : slices_symMergeCmpFunc_intent_slot_intent_Ring_Live_1.l4 k 0 x54 x55 x56 x57 x58 x59 x60 x61 x62 x63 h64 = none := rfl
theorem slices_symMergeCmpFunc_intent_slot_intent_Ring_Live_1.l4_succ (k n : Nat) (x54 : Sl) (x55 : Int) (x56 : Int) (x57 : Int) (x58 : Unit) (x59 : Int) (x60 : Int) (x61 : Int) (x62 : Int) (x63 : Int) (h64 : H) : slices_symMergeCmpFunc_intent_slot_intent_Ring_Live_1.l4 k (n + 1) x54 x55 x56 x57 x58 x59 x60 x61 x62 x63 h64 = (cond (decide (x62 < x63))
      ((asP (ixs 5 x54.a x54.n (wrapA .i64 (x61 - (wrapA .i64 ((wrapA .u64 (wrapA .i64 (x62 + x63))).fdiv (2 ^ 1))))))).bind fun p65 =>
    (asSt [.bool, (.int .i64), (.int .i64), (.int .i64), .sl] (lda 5 h64 p65)).bind fun s66 =>
    (asP (ixs 5 x54.a x54.n (wrapA .i64 ((wrapA .u64 (wrapA .i64 (x62 + x63))).fdiv (2 ^ 1))))).bind fun p67 =>
    (asSt [.bool, (.int .i64), (.int .i64), (.int .i64), .sl] (lda 5 h64 p67)).bind fun s68 =>
    (intent_Ring_Live_1.f k (s66.1, s66.2.1, s66.2.2.1, s66.2.2.2.1, s66.2.2.2.2) (s68.1, s68.2.1, s68.2.2.1, s68.2.2.2.1, s68.2.2.2.2) h64).bind fun q69 =>
    (cond (!(decide (q69.1 < (0 : Int))))
      (some ((wrapA .i64 ((wrapA .i64 ((wrapA .u64 (wrapA .i64 (x62 + x63))).fdiv (2 ^ 1))) + (1 : Int)), x63), q69.2))
      (some ((x62, wrapA .i64 ((wrapA .u64 (wrapA .i64 (x62 + x63))).fdiv (2 ^ 1))), q69.2)) : Option ((Int × Int) × H)).bind fun j70 =>
    slices_symMergeCmpFunc_intent_slot_intent_Ring_Live_1.l4 k n x54 x55 x56 x57 () x59 x60 x61 j70.1.1 j70.1.2 j70.2)
      (some (x62, h64))) := rfl
noncomputable def slices_symMergeCmpFunc_intent_slot_intent_Ring_Live_1.l2 (k : Nat) (n : Nat) : Sl → Int → Unit → Int → Int → H → Option ((Int) × H) :=
  Nat.rec (motive := fun _ => Sl → Int → Unit → Int → Int → H → Option ((Int) × H)) (fun _ _ _ _ _ _ => none) (fun _ ih x27 x28 x29 x30 x31 h32 => cond (decide (x30 < x31))
      ((asP (ixs 5 x27.a x27.n x28)).bind fun p33 =>
    (asSt [.bool, (.int .i64), (.int .i64), (.int .i64), .sl] (lda 5 h32 p33)).bind fun s34 =>
    (asP (ixs 5 x27.a x27.n (wrapA .i64 ((wrapA .u64 (wrapA .i64 (x30 + x31))).fdiv (2 ^ 1))))).bind fun p35 =>
    (asSt [.bool, (.int .i64), (.int .i64), (.int .i64), .sl] (lda 5 h32 p35)).bind fun s36 =>
    (intent_Ring_Live_1.f k (s34.1, s34.2.1, s34.2.2.1, s34.2.2.2.1, s34.2.2.2.2) (s36.1, s36.2.1, s36.2.2.1, s36.2.2.2.1, s36.2.2.2.2) h32).bind fun q37 =>
    (cond (!(decide (q37.1 < (0 : Int))))
      (some ((wrapA .i64 ((wrapA .i64 ((wrapA .u64 (wrapA .i64 (x30 + x31))).fdiv (2 ^ 1))) + (1 : Int)), x31), q37.2))
      (some ((x30, wrapA .i64 ((wrapA .u64 (wrapA .i64 (x30 + x31))).fdiv (2 ^ 1))), q37.2)) : Option ((Int × Int) × H)).bind fun j38 =>
    ih x27 x28 () j38.1.1 j38.1.2 j38.2)
      (some (x30, h32))) n
theorem slices_symMergeCmpFunc_intent_slot_intent_Ring_Live_1.l2_zero (k : Nat) (x27 : Sl) (x28 : Int) (x29 : Unit) (x30 : Int) (x31 : Int) (h32 : H) : slices_symMergeCmpFunc_intent_slot_intent_Ring_Live_1.l2 k 0 x27 x28 x29 x30 x31 h32 = none := rfl
theorem slices_symMergeCmpFunc_intent_slot_intent_Ring_Live_1.l2_succ (k n : Nat) (x27 : Sl) (x28 : Int) (x29 : Unit) (x30 : Int) (x31 : Int) (h32 : H) : slices_symMergeCmpFunc_intent_slot_intent_Ring_Live_1.l2 k (n + 1) x27 x28 x29 x30 x31 h32 = (cond (decide (x30 < x31))
      ((asP (ixs 5 x27.a x27.n x28)).bind fun p33 =>
    (asSt [.bool, (.int .i64), (.int .i64), (.int .i64), .sl] (lda 5 h32 p33)).bind fun s34 =>
    (asP (ixs 5 x27.a x27.n (wrapA .i64 ((wrapA .u64 (wrapA .i64 (x30 + x31))).fdiv (2 ^ 1))))).bind fun p35 =>
    (asSt [.bool, (.int .i64), (.int .i64), (.int .i64), .sl] (lda 5 h32 p35)).bind fun s36 =>
    (intent_Ring_Live_1.f k (s34.1, s34.2.1, s34.2.2.1, s34.2.2.2.1, s34.2.2.2.2) (s36.1, s36.2.1, s36.2.2.1, s36.2.2.2.1, s36.2.2.2.2) h32).bind fun q37 =>
    (cond (!(decide (q37.1 < (0 : Int))))
      (some ((wrapA .i64 ((wrapA .i64 ((wrapA .u64 (wrapA .i64 (x30 + x31))).fdiv (2 ^ 1))) + (1 : Int)), x31), q37.2))
      (some ((x30, wrapA .i64 ((wrapA .u64 (wrapA .i64 (x30 + x31))).fdiv (2 ^ 1))), q37.2)) : Option ((Int × Int) × H)).bind fun j38 =>
    slices_symMergeCmpFunc_intent_slot_intent_Ring_Live_1.l2 k n x27 x28 () j38.1.1 j38.1.2 j38.2)
      (some (x30, h32))) := rfl
noncomputable def slices_symMergeCmpFunc_intent_slot_intent_Ring_Live_1.l0 (k : Nat) (n : Nat) : Sl → Int → Unit → Int → Int → H → Option ((Int) × H) :=
  Nat.rec (motive := fun _ => Sl → Int → Unit → Int → Int → H → Option ((Int) × H)) (fun _ _ _ _ _ _ => none) (fun _ ih x1 x2 x3 x4 x5 h6 => cond (decide (x4 < x5))
      ((asP (ixs 5 x1.a x1.n (wrapA .i64 ((wrapA .u64 (wrapA .i64 (x4 + x5))).fdiv (2 ^ 1))))).bind fun p7 =>
    (asSt [.bool, (.int .i64), (.int .i64), (.int .i64), .sl] (lda 5 h6 p7)).bind fun s8 =>
    (asP (ixs 5 x1.a x1.n x2)).bind fun p9 =>
    (asSt [.bool, (.int .i64), (.int .i64), (.int .i64), .sl] (lda 5 h6 p9)).bind fun s10 =>
    (intent_Ring_Live_1.f k (s8.1, s8.2.1, s8.2.2.1, s8.2.2.2.1, s8.2.2.2.2) (s10.1, s10.2.1, s10.2.2.1, s10.2.2.2.1, s10.2.2.2.2) h6).bind fun q11 =>
    (cond (decide (q11.1 < (0 : Int)))
      (some ((wrapA .i64 ((wrapA .i64 ((wrapA .u64 (wrapA .i64 (x4 + x5))).fdiv (2 ^ 1))) + (1 : Int)), x5), q11.2))
      (some ((x4, wrapA .i64 ((wrapA .u64 (wrapA .i64 (x4 + x5))).fdiv (2 ^ 1))), q11.2)) : Option ((Int × Int) × H)).bind fun j12 =>
    ih x1 x2 () j12.1.1 j12.1.2 j12.2)
      (some (x4, h6))) n
theorem slices_symMergeCmpFunc_intent_slot_intent_Ring_Live_1.l0_zero (k : Nat) (x1 : Sl) (x2 : Int) (x3 : Unit) (x4 : Int) (x5 : Int) (h6 : H) : slices_symMergeCmpFunc_intent_slot_intent_Ring_Live_1.l0 k 0 x1 x2 x3 x4 x5 h6 = none := rfl
theorem slices_symMergeCmpFunc_intent_slot_intent_Ring_Live_1.l0_succ (k n : Nat) (x1 : Sl) (x2 : Int) (x3 : Unit) (x4 : Int) (x5 : Int) (h6 : H) : slices_symMergeCmpFunc_intent_slot_intent_Ring_Live_1.l0 k (n + 1) x1 x2 x3 x4 x5 h6 = (cond (decide (x4 < x5))
      ((asP (ixs 5 x1.a x1.n (wrapA .i64 ((wrapA .u64 (wrapA .i64 (x4 + x5))).fdiv (2 ^ 1))))).bind fun p7 =>
    (asSt [.bool, (.int .i64), (.int .i64), (.int .i64), .sl] (lda 5 h6 p7)).bind fun s8 =>
    (asP (ixs 5 x1.a x1.n x2)).bind fun p9 =>
    (asSt [.bool, (.int .i64), (.int .i64), (.int .i64), .sl] (lda 5 h6 p9)).bind fun s10 =>
    (intent_Ring_Live_1.f k (s8.1, s8.2.1, s8.2.2.1, s8.2.2.2.1, s8.2.2.2.2) (s10.1, s10.2.1, s10.2.2.1, s10.2.2.2.1, s10.2.2.2.2) h6).bind fun q11 =>
    (cond (decide (q11.1 < (0 : Int)))
      (some ((wrapA .i64 ((wrapA .i64 ((wrapA .u64 (wrapA .i64 (x4 + x5))).fdiv (2 ^ 1))) + (1 : Int)), x5), q11.2))
      (some ((x4, wrapA .i64 ((wrapA .u64 (wrapA .i64 (x4 + x5))).fdiv (2 ^ 1))), q11.2)) : Option ((Int × Int) × H)).bind fun j12 =>
    slices_symMergeCmpFunc_intent_slot_intent_Ring_Live_1.l0 k n x1 x2 () j12.1.1 j12.1.2 j12.2)
      (some (x4, h6))) := rfl
noncomputable def slices_symMergeCmpFunc_intent_slot_intent_Ring_Live_1.f (k : Nat) (a0 : Sl) (a1 : Int) (a2 : Int) (a3 : Int) (a4 : Unit) (h : H) : Option ((Unit) × H) :=
  cond ((wrapA .i64 (a2 - a1)) == (1 : Int))
      ((slices_symMergeCmpFunc_intent_slot_intent_Ring_Live_1.l0 k k a0 a1 () a2 a3 h).bind fun w13 =>
    (slices_symMergeCmpFunc_intent_slot_intent_Ring_Live_1.l1 k k a0 w13.1 a1 w13.2).bind fun w26 =>
    some ((), w26.2))
      (cond ((wrapA .i64 (a3 - a2)) == (1 : Int))
      ((slices_symMergeCmpFunc_intent_slot_intent_Ring_Live_1.l2 k k a0 a2 () a1 a2 h).bind fun w39 =>
    (slices_symMergeCmpFunc_intent_slot_intent_Ring_Live_1.l3 k k a0 w39.1 a2 w39.2).bind fun w52 =>
    some ((), w52.2))
      ((cond (decide (a2 > (wrapA .i64 ((wrapA .u64 (wrapA .i64 (a1 + a3))).fdiv (2 ^ 1)))))
      (some ((wrapA .i64 ((wrapA .i64 ((wrapA .i64 ((wrapA .u64 (wrapA .i64 (a1 + a3))).fdiv (2 ^ 1))) + a2)) - a3), wrapA .i64 ((wrapA .u64 (wrapA .i64 (a1 + a3))).fdiv (2 ^ 1))), h))
      (some ((a1, a2), h)) : Option ((Int × Int) × H)).bind fun j53 =>
    (slices_symMergeCmpFunc_intent_slot_intent_Ring_Live_1.l4 k k a0 a1 a2 a3 () (wrapA .i64 ((wrapA .u64 (wrapA .i64 (a1 + a3))).fdiv (2 ^ 1))) (wrapA .i64 ((wrapA .i64 ((wrapA .u64 (wrapA .i64 (a1 + a3))).fdiv (2 ^ 1))) + a2)) (wrapA .i64 ((wrapA .i64 ((wrapA .i64 ((wrapA .u64 (wrapA .i64 (a1 + a3))).fdiv (2 ^ 1))) + a2)) - (1 : Int))) j53.1.1 j53.1.2 j53.2).bind fun w71 =>
    (cond (decide (w71.1 < a2)) (some (decide (a2 < (wrapA .i64 ((wrapA .i64 ((wrapA .i64 ((wrapA .u64 (wrapA .i64 (a1 + a3))).fdiv (2 ^ 1))) + a2)) - w71.1))), w71.2))
      (some (false, w71.2))).bind fun g72 =>
    (cond g72.1
      ((slices_rotateCmpFunc_intent_slot_intent_Ring_Live_1.f k a0 w71.1 a2 (wrapA .i64 ((wrapA .i64 ((wrapA .i64 ((wrapA .u64 (wrapA .i64 (a1 + a3))).fdiv (2 ^ 1))) + a2)) - w71.1)) () g72.2).bind fun q73 =>
    some ((), q73.2))
      (some ((), g72.2)) : Option ((Unit) × H)).bind fun j74 =>
    (cond (decide (a1 < w71.1)) (some (decide (w71.1 < (wrapA .i64 ((wrapA .u64 (wrapA .i64 (a1 + a3))).fdiv (2 ^ 1)))), j74.2))
      (some (false, j74.2))).bind fun g75 =>
    (cond g75.1
      (none)
      (some ((), g75.2)) : Option ((Unit) × H)).bind fun j76 =>
    (cond (decide ((wrapA .i64 ((wrapA .u64 (wrapA .i64 (a1 + a3))).fdiv (2 ^ 1))) < (wrapA .i64 ((wrapA .i64 ((wrapA .i64 ((wrapA .u64 (wrapA .i64 (a1 + a3))).fdiv (2 ^ 1))) + a2)) - w71.1)))) (some (decide ((wrapA .i64 ((wrapA .i64 ((wrapA .i64 ((wrapA .u64 (wrapA .i64 (a1 + a3))).fdiv (2 ^ 1))) + a2)) - w71.1)) < a3), j76.2))
      (some (false, j76.2))).bind fun g77 =>
    (cond g77.1
      (none)
      (some ((), g77.2)) : Option ((Unit) × H)).bind fun j78 =>
    some ((), j78.2)))
noncomputable def slices_symMergeCmpFunc_intent_slot_intent_Ring_Live_1.T (k : Nat) : Tbl := tblOf [⟨68, anyArgs, wr [(.st [.bool, (.int .i64), (.int .i64), (.int .i64), .sl]), (.st [.bool, (.int .i64), (.int .i64), (.int .i64), .sl])] [(.int .i64)] (fun a h => intent_Ring_Live_1.f k (a.1) (a.2) h)⟩,
  ⟨75, chkF [(4, 68)], wr [.sl, (.int .i64), (.int .i64), (.int .i64), (.fn 68 0)] [] (fun a h => slices_rotateCmpFunc_intent_slot_intent_Ring_Live_1.f k (a.1) (a.2.1) (a.2.2.1) (a.2.2.2.1) (a.2.2.2.2) h)⟩]
noncomputable def slices_symMergeCmpFunc_intent_slot_intent_Ring_Live_1.an (k : Nat) (p : Nat) : Option Ann := cond (Nat.beq p 8191) (some (.join [] none []))
  (cond (Nat.beq p 8189) (some (.join [0, 3, 4, 18, 24] none []))
  (cond (Nat.beq p 4093) (some (.join [0, 1, 3, 4, 18, 20, 24] none []))
  (cond (Nat.beq p 1020) (some (.pass [0, 1, 2, 3, 4, 18, 19] (lrun [(0, .sl), (1, (.int .i64)), (2, (.int .i64)), (3, (.int .i64)), (4, (.fn 68 0)), (18, (.int .i64)), (19, (.int .i64)), (22, (.int .i64)), (20, (.int .i64)), (21, (.int .i64))] none [(20, (.int .i64))] 8 (fun a h => slices_symMergeCmpFunc_intent_slot_intent_Ring_Live_1.l4 k k (a.1) (a.2.1) (a.2.2.1) (a.2.2.2.1) (a.2.2.2.2.1) (a.2.2.2.2.2.1) (a.2.2.2.2.2.2.1) (a.2.2.2.2.2.2.2.1) (a.2.2.2.2.2.2.2.2.1) (a.2.2.2.2.2.2.2.2.2) h))))
  (cond (Nat.beq p 32651) (some (.join [0, 1, 2, 3, 4, 18, 19, 22] none [(20, (.int .i64)), (21, (.int .i64))]))
  (cond (Nat.beq p 253) (some (.join [0, 1, 2, 3, 4, 18, 19] none [(20, (.int .i64)), (21, (.int .i64))]))
  (cond (Nat.beq p 1722) (some (.pass [] (lrun [(0, .sl), (14, (.int .i64)), (17, (.int .i64))] none [] 6 (fun a h => slices_symMergeCmpFunc_intent_slot_intent_Ring_Live_1.l3 k k (a.1) (a.2.1) (a.2.2) h))))
  (cond (Nat.beq p 428) (some (.pass [0, 2] (lrun [(0, .sl), (2, (.int .i64)), (4, (.fn 68 0)), (14, (.int .i64)), (15, (.int .i64))] none [(14, (.int .i64))] 4 (fun a h => slices_symMergeCmpFunc_intent_slot_intent_Ring_Live_1.l2 k k (a.1) (a.2.1) (a.2.2.1) (a.2.2.2.1) (a.2.2.2.2) h))))
  (cond (Nat.beq p 13707) (some (.join [0, 2, 4] none [(14, (.int .i64)), (15, (.int .i64))]))
  (cond (Nat.beq p 698) (some (.pass [] (lrun [(0, .sl), (10, (.int .i64)), (13, (.int .i64))] none [] 2 (fun a h => slices_symMergeCmpFunc_intent_slot_intent_Ring_Live_1.l1 k k (a.1) (a.2.1) (a.2.2) h))))
  (cond (Nat.beq p 172) (some (.pass [0, 1] (lrun [(0, .sl), (1, (.int .i64)), (4, (.fn 68 0)), (10, (.int .i64)), (11, (.int .i64))] none [(10, (.int .i64))] 0 (fun a h => slices_symMergeCmpFunc_intent_slot_intent_Ring_Live_1.l0 k k (a.1) (a.2.1) (a.2.2.1) (a.2.2.2.1) (a.2.2.2.2) h))))
  (cond (Nat.beq p 5515) (some (.join [0, 1, 4] none [(10, (.int .i64)), (11, (.int .i64))]))
  (none))))))))))))
noncomputable def slices_symMergeCmpFunc_intent_slot_intent_Ring_Live_1.body : Code := (Try.f74.body).getD .skip
noncomputable def slices_symMergeCmpFunc_intent_slot_intent_Ring_Live_1.c172 : Code := cat slices_symMergeCmpFunc_intent_slot_intent_Ring_Live_1.body [0, 1, 0, 1, 1, 0, 0, 0]
noncomputable def slices_symMergeCmpFunc_intent_slot_intent_Ring_Live_1.c698 : Code := cat slices_symMergeCmpFunc_intent_slot_intent_Ring_Live_1.body [0, 1, 0, 1, 1, 1, 0, 1, 0, 0]
noncomputable def slices_symMergeCmpFunc_intent_slot_intent_Ring_Live_1.c428 : Code := cat slices_symMergeCmpFunc_intent_slot_intent_Ring_Live_1.body [1, 0, 1, 0, 1, 1, 0, 0, 0]
noncomputable def slices_symMergeCmpFunc_intent_slot_intent_Ring_Live_1.c1722 : Code := cat slices_symMergeCmpFunc_intent_slot_intent_Ring_Live_1.body [1, 0, 1, 0, 1, 1, 1, 0, 1, 0, 0]
noncomputable def slices_symMergeCmpFunc_intent_slot_intent_Ring_Live_1.c1020 : Code := cat slices_symMergeCmpFunc_intent_slot_intent_Ring_Live_1.body [1, 1, 1, 1, 1, 1, 1, 0, 0, 0]
set_option maxRecDepth 100000 in
theorem slices_symMergeCmpFunc_intent_slot_intent_Ring_Live_1.TS {C : FuncId → Bool} {X : CallF} (hX : XOk C X) (k : Nat) : TblS Try.prog C X (slices_symMergeCmpFunc_intent_slot_intent_Ring_Live_1.T k) := by
  refine tblOf_sound ?_
  intro e he
  rcases List.mem_cons.1 he with rfl | he
  · exact wr_told (intent_Ring_Live_1.told hX k)
  rcases List.mem_cons.1 he with rfl | he
  · exact wr_told (slices_rotateCmpFunc_intent_slot_intent_Ring_Live_1.told hX k)
  exact absurd he List.not_mem_nil
set_option maxRecDepth 100000 in
theorem slices_symMergeCmpFunc_intent_slot_intent_Ring_Live_1.l3_pass {C : FuncId → Bool} {X : CallF} (hX : XOk C X) (k n : Nat) : PassS Try.prog C X 220 (.loop slices_symMergeCmpFunc_intent_slot_intent_Ring_Live_1.c1722) (lrun [(0, .sl), (14, (.int .i64)), (17, (.int .i64))] none [] 6 (fun a h => slices_symMergeCmpFunc_intent_slot_intent_Ring_Live_1.l3 k n (a.1) (a.2.1) (a.2.2) h)) :=
  loop_pass (ins := [(0, .sl), (14, (.int .i64)), (17, (.int .i64))]) (rets := none) (outs := []) (id := 6) (tbl := slices_symMergeCmpFunc_intent_slot_intent_Ring_Live_1.T k) (an := slices_symMergeCmpFunc_intent_slot_intent_Ring_Live_1.an k) (pb := 3444) (slices_symMergeCmpFunc_intent_slot_intent_Ring_Live_1.TS hX k) (fun n => (fun a h => slices_symMergeCmpFunc_intent_slot_intent_Ring_Live_1.l3 k n (a.1) (a.2.1) (a.2.2) h)) (fun a h => rfl) (fun n a h => by kernel_rfl)
    (by
      have e : need (slices_symMergeCmpFunc_intent_slot_intent_Ring_Live_1.an k) slices_symMergeCmpFunc_intent_slot_intent_Ring_Live_1.c1722 3444 = [] := by kernel_rfl
      rw [e]; intro q hq; cases hq) n
set_option maxRecDepth 100000 in
theorem slices_symMergeCmpFunc_intent_slot_intent_Ring_Live_1.l1_pass {C : FuncId → Bool} {X : CallF} (hX : XOk C X) (k n : Nat) : PassS Try.prog C X 220 (.loop slices_symMergeCmpFunc_intent_slot_intent_Ring_Live_1.c698) (lrun [(0, .sl), (10, (.int .i64)), (13, (.int .i64))] none [] 2 (fun a h => slices_symMergeCmpFunc_intent_slot_intent_Ring_Live_1.l1 k n (a.1) (a.2.1) (a.2.2) h)) :=
  loop_pass (ins := [(0, .sl), (10, (.int .i64)), (13, (.int .i64))]) (rets := none) (outs := []) (id := 2) (tbl := slices_symMergeCmpFunc_intent_slot_intent_Ring_Live_1.T k) (an := slices_symMergeCmpFunc_intent_slot_intent_Ring_Live_1.an k) (pb := 1396) (slices_symMergeCmpFunc_intent_slot_intent_Ring_Live_1.TS hX k) (fun n => (fun a h => slices_symMergeCmpFunc_intent_slot_intent_Ring_Live_1.l1 k n (a.1) (a.2.1) (a.2.2) h)) (fun a h => rfl) (fun n a h => by kernel_rfl)
    (by
      have e : need (slices_symMergeCmpFunc_intent_slot_intent_Ring_Live_1.an k) slices_symMergeCmpFunc_intent_slot_intent_Ring_Live_1.c698 1396 = [] := by kernel_rfl
      rw [e]; intro q hq; cases hq) n
set_option maxRecDepth 100000 in
theorem slices_symMergeCmpFunc_intent_slot_intent_Ring_Live_1.l4_pass {C : FuncId → Bool} {X : CallF} (hX : XOk C X) (k n : Nat) : PassS Try.prog C X 220 (.loop slices_symMergeCmpFunc_intent_slot_intent_Ring_Live_1.c1020) (lrun [(0, .sl), (1, (.int .i64)), (2, (.int .i64)), (3, (.int .i64)), (4, (.fn 68 0)), (18, (.int .i64)), (19, (.int .i64)), (22, (.int .i64)), (20, (.int .i64)), (21, (.int .i64))] none [(20, (.int .i64))] 8 (fun a h => slices_symMergeCmpFunc_intent_slot_intent_Ring_Live_1.l4 k n (a.1) (a.2.1) (a.2.2.1) (a.2.2.2.1) (a.2.2.2.2.1) (a.2.2.2.2.2.1) (a.2.2.2.2.2.2.1) (a.2.2.2.2.2.2.2.1) (a.2.2.2.2.2.2.2.2.1) (a.2.2.2.2.2.2.2.2.2) h)) :=
  loop_pass (ins := [(0, .sl), (1, (.int .i64)), (2, (.int .i64)), (3, (.int .i64)), (4, (.fn 68 0)), (18, (.int .i64)), (19, (.int .i64)), (22, (.int .i64)), (20, (.int .i64)), (21, (.int .i64))]) (rets := none) (outs := [(20, (.int .i64))]) (id := 8) (tbl := slices_symMergeCmpFunc_intent_slot_intent_Ring_Live_1.T k) (an := slices_symMergeCmpFunc_intent_slot_intent_Ring_Live_1.an k) (pb := 2040) (slices_symMergeCmpFunc_intent_slot_intent_Ring_Live_1.TS hX k) (fun n => (fun a h => slices_symMergeCmpFunc_intent_slot_intent_Ring_Live_1.l4 k n (a.1) (a.2.1) (a.2.2.1) (a.2.2.2.1) (a.2.2.2.2.1) (a.2.2.2.2.2.1) (a.2.2.2.2.2.2.1) (a.2.2.2.2.2.2.2.1) (a.2.2.2.2.2.2.2.2.1) (a.2.2.2.2.2.2.2.2.2) h)) (fun a h => rfl) (fun n a h => by kernel_rfl)
    (by
      have e : need (slices_symMergeCmpFunc_intent_slot_intent_Ring_Live_1.an k) slices_symMergeCmpFunc_intent_slot_intent_Ring_Live_1.c1020 2040 = [] := by kernel_rfl
      rw [e]; intro q hq; cases hq) n
set_option maxRecDepth 100000 in
theorem slices_symMergeCmpFunc_intent_slot_intent_Ring_Live_1.l2_pass {C : FuncId → Bool} {X : CallF} (hX : XOk C X) (k n : Nat) : PassS Try.prog C X 220 (.loop slices_symMergeCmpFunc_intent_slot_intent_Ring_Live_1.c428) (lrun [(0, .sl), (2, (.int .i64)), (4, (.fn 68 0)), (14, (.int .i64)), (15, (.int .i64))] none [(14, (.int .i64))] 4 (fun a h => slices_symMergeCmpFunc_intent_slot_intent_Ring_Live_1.l2 k n (a.1) (a.2.1) (a.2.2.1) (a.2.2.2.1) (a.2.2.2.2) h)) :=
  loop_pass (ins := [(0, .sl), (2, (.int .i64)), (4, (.fn 68 0)), (14, (.int .i64)), (15, (.int .i64))]) (rets := none) (outs := [(14, (.int .i64))]) (id := 4) (tbl := slices_symMergeCmpFunc_intent_slot_intent_Ring_Live_1.T k) (an := slices_symMergeCmpFunc_intent_slot_intent_Ring_Live_1.an k) (pb := 856) (slices_symMergeCmpFunc_intent_slot_intent_Ring_Live_1.TS hX k) (fun n => (fun a h => slices_symMergeCmpFunc_intent_slot_intent_Ring_Live_1.l2 k n (a.1) (a.2.1) (a.2.2.1) (a.2.2.2.1) (a.2.2.2.2) h)) (fun a h => rfl) (fun n a h => by kernel_rfl)
    (by
      have e : need (slices_symMergeCmpFunc_intent_slot_intent_Ring_Live_1.an k) slices_symMergeCmpFunc_intent_slot_intent_Ring_Live_1.c428 856 = [] := by kernel_rfl
      rw [e]; intro q hq; cases hq) n
set_option maxRecDepth 100000 in
theorem slices_symMergeCmpFunc_intent_slot_intent_Ring_Live_1.l0_pass {C : FuncId → Bool} {X : CallF} (hX : XOk C X) (k n : Nat) : PassS Try.prog C X 220 (.loop slices_symMergeCmpFunc_intent_slot_intent_Ring_Live_1.c172) (lrun [(0, .sl), (1, (.int .i64)), (4, (.fn 68 0)), (10, (.int .i64)), (11, (.int .i64))] none [(10, (.int .i64))] 0 (fun a h => slices_symMergeCmpFunc_intent_slot_intent_Ring_Live_1.l0 k n (a.1) (a.2.1) (a.2.2.1) (a.2.2.2.1) (a.2.2.2.2) h)) :=
  loop_pass (ins := [(0, .sl), (1, (.int .i64)), (4, (.fn 68 0)), (10, (.int .i64)), (11, (.int .i64))]) (rets := none) (outs := [(10, (.int .i64))]) (id := 0) (tbl := slices_symMergeCmpFunc_intent_slot_intent_Ring_Live_1.T k) (an := slices_symMergeCmpFunc_intent_slot_intent_Ring_Live_1.an k) (pb := 344) (slices_symMergeCmpFunc_intent_slot_intent_Ring_Live_1.TS hX k) (fun n => (fun a h => slices_symMergeCmpFunc_intent_slot_intent_Ring_Live_1.l0 k n (a.1) (a.2.1) (a.2.2.1) (a.2.2.2.1) (a.2.2.2.2) h)) (fun a h => rfl) (fun n a h => by kernel_rfl)
    (by
      have e : need (slices_symMergeCmpFunc_intent_slot_intent_Ring_Live_1.an k) slices_symMergeCmpFunc_intent_slot_intent_Ring_Live_1.c172 344 = [] := by kernel_rfl
      rw [e]; intro q hq; cases hq) n
set_option maxRecDepth 100000 in
theorem slices_symMergeCmpFunc_intent_slot_intent_Ring_Live_1.eq (k : Nat) (a : RT [.sl, (.int .i64), (.int .i64), (.int .i64), (.fn 68 0)]) (h : H) : (fun a h => slices_symMergeCmpFunc_intent_slot_intent_Ring_Live_1.f k (a.1) (a.2.1) (a.2.2.1) (a.2.2.2.1) (a.2.2.2.2) h) a h = kfun Try.prog (slices_symMergeCmpFunc_intent_slot_intent_Ring_Live_1.T k) (slices_symMergeCmpFunc_intent_slot_intent_Ring_Live_1.an k) (RT [] × H) Try.f74 (encL [.sl, (.int .i64), (.int .i64), (.int .i64), (.fn 68 0)] a) h (fun vs h' => (decL [] vs).bind fun x => some (x, h')) := by kernel_rfl
set_option maxRecDepth 100000 in
theorem slices_symMergeCmpFunc_intent_slot_intent_Ring_Live_1.told {C : FuncId → Bool} {X : CallF} (hX : XOk C X) (k : Nat) : Den.Told Try.prog C X 74 [.sl, (.int .i64), (.int .i64), (.int .i64), (.fn 68 0)] [] (fun a h => slices_symMergeCmpFunc_intent_slot_intent_Ring_Live_1.f k (a.1) (a.2.1) (a.2.2.1) (a.2.2.2.1) (a.2.2.2.2) h) :=
  told_of fun a h q e => fn_of (c := slices_symMergeCmpFunc_intent_slot_intent_Ring_Live_1.body) (slices_symMergeCmpFunc_intent_slot_intent_Ring_Live_1.TS hX k) Try.func74 (by kernel_rfl) (hX.no 74 _ h (by decide))
    (by
      have e : need (slices_symMergeCmpFunc_intent_slot_intent_Ring_Live_1.an k) slices_symMergeCmpFunc_intent_slot_intent_Ring_Live_1.body 1 = [(Code.loop slices_symMergeCmpFunc_intent_slot_intent_Ring_Live_1.c172, lrun [(0, .sl), (1, (.int .i64)), (4, (.fn 68 0)), (10, (.int .i64)), (11, (.int .i64))] none [(10, (.int .i64))] 0 (fun a h => slices_symMergeCmpFunc_intent_slot_intent_Ring_Live_1.l0 k k (a.1) (a.2.1) (a.2.2.1) (a.2.2.2.1) (a.2.2.2.2) h)), (Code.loop slices_symMergeCmpFunc_intent_slot_intent_Ring_Live_1.c698, lrun [(0, .sl), (10, (.int .i64)), (13, (.int .i64))] none [] 2 (fun a h => slices_symMergeCmpFunc_intent_slot_intent_Ring_Live_1.l1 k k (a.1) (a.2.1) (a.2.2) h)), (Code.loop slices_symMergeCmpFunc_intent_slot_intent_Ring_Live_1.c428, lrun [(0, .sl), (2, (.int .i64)), (4, (.fn 68 0)), (14, (.int .i64)), (15, (.int .i64))] none [(14, (.int .i64))] 4 (fun a h => slices_symMergeCmpFunc_intent_slot_intent_Ring_Live_1.l2 k k (a.1) (a.2.1) (a.2.2.1) (a.2.2.2.1) (a.2.2.2.2) h)), (Code.loop slices_symMergeCmpFunc_intent_slot_intent_Ring_Live_1.c1722, lrun [(0, .sl), (14, (.int .i64)), (17, (.int .i64))] none [] 6 (fun a h => slices_symMergeCmpFunc_intent_slot_intent_Ring_Live_1.l3 k k (a.1) (a.2.1) (a.2.2) h)), (Code.loop slices_symMergeCmpFunc_intent_slot_intent_Ring_Live_1.c1020, lrun [(0, .sl), (1, (.int .i64)), (2, (.int .i64)), (3, (.int .i64)), (4, (.fn 68 0)), (18, (.int .i64)), (19, (.int .i64)), (22, (.int .i64)), (20, (.int .i64)), (21, (.int .i64))] none [(20, (.int .i64))] 8 (fun a h => slices_symMergeCmpFunc_intent_slot_intent_Ring_Live_1.l4 k k (a.1) (a.2.1) (a.2.2.1) (a.2.2.2.1) (a.2.2.2.2.1) (a.2.2.2.2.2.1) (a.2.2.2.2.2.2.1) (a.2.2.2.2.2.2.2.1) (a.2.2.2.2.2.2.2.2.1) (a.2.2.2.2.2.2.2.2.2) h))] := by kernel_rfl
      rw [e]; intro q hq
      rcases List.mem_cons.1 hq with rfl | hq
      · exact slices_symMergeCmpFunc_intent_slot_intent_Ring_Live_1.l0_pass hX k k
      rcases List.mem_cons.1 hq with rfl | hq
      · exact slices_symMergeCmpFunc_intent_slot_intent_Ring_Live_1.l1_pass hX k k
      rcases List.mem_cons.1 hq with rfl | hq
      · exact slices_symMergeCmpFunc_intent_slot_intent_Ring_Live_1.l2_pass hX k k
      rcases List.mem_cons.1 hq with rfl | hq
      · exact slices_symMergeCmpFunc_intent_slot_intent_Ring_Live_1.l3_pass hX k k
      rcases List.mem_cons.1 hq with rfl | hq
      · exact slices_symMergeCmpFunc_intent_slot_intent_Ring_Live_1.l4_pass hX k k
      cases hq)
    ((slices_symMergeCmpFunc_intent_slot_intent_Ring_Live_1.eq k a h).symm.trans e)
/-! ### slices.stableCmpFunc[corbel/intent.slot] -/
noncomputable def slices_stableCmpFunc_intent_slot_intent_Ring_Live_1.l2 (k : Nat) (n : Nat) : Sl → Int → Unit → Int → Int → Int → H → Option ((Int) × H) :=
  Nat.rec (motive := fun _ => Sl → Int → Unit → Int → Int → Int → H → Option ((Int) × H)) (fun _ _ _ _ _ _ _ => none) (fun _ ih x16 x17 x18 x19 x20 x21 h22 => cond (decide (x21 ≤ x17))
      ((slices_symMergeCmpFunc_intent_slot_intent_Ring_Live_1.f k x16 x20 (wrapA .i64 (x20 + x19)) x21 () h22).bind fun q23 =>
    ih x16 x17 () x19 x21 (wrapA .i64 (x21 + (wrapA .i64 ((2 : Int) * x19)))) q23.2)
      (some (x20, h22))) n
theorem slices_stableCmpFunc_intent_slot_intent_Ring_Live_1.l2_zero (k : Nat) (x16 : Sl) (x17 : Int) (x18 : Unit) (x19 : Int) (x20 : Int) (x21 : Int) (h22 : H) : slices_stableCmpFunc_intent_slot_intent_Ring_Live_1.l2 k 0 x16 x17 x18 x19 x20 x21 h22 = none := rfl
theorem slices_stableCmpFunc_intent_slot_intent_Ring_Live_1.l2_succ (k n : Nat) (x16 : Sl) (x17 : Int) (x18 : Unit) (x19 : Int) (x20 : Int) (x21 : Int) (h22 : H) : slices_stableCmpFunc_intent_slot_intent_Ring_Live_1.l2 k (n + 1) x16 x17 x18 x19 x20 x21 h22 = (cond (decide (x21 ≤ x17))
      ((slices_symMergeCmpFunc_intent_slot_intent_Ring_Live_1.f k x16 x20 (wrapA .i64 (x20 + x19)) x21 () h22).bind fun q23 =>
    slices_stableCmpFunc_intent_slot_intent_Ring_Live_1.l2 k n x16 x17 () x19 x21 (wrapA .i64 (x21 + (wrapA .i64 ((2 : Int) * x19)))) q23.2)
      (some (x20, h22))) := rfl
noncomputable def slices_stableCmpFunc_intent_slot_intent_Ring_Live_1.l1 (k : Nat) (n : Nat) : Sl → Int → Unit → Int → H → Option ((Unit) × H) :=
  Nat.rec (motive := fun _ => Sl → Int → Unit → Int → H → Option ((Unit) × H)) (fun _ _ _ _ _ => none) (fun _ ih x11 x12 x13 x14 h15 => cond (decide (x14 < x12))
      ((slices_stableCmpFunc_intent_slot_intent_Ring_Live_1.l2 k k x11 x12 () x14 (0 : Int) (wrapA .i64 ((2 : Int) * x14)) h15).bind fun w24 =>
    (cond (decide ((wrapA .i64 (w24.1 + x14)) < x12))
      ((slices_symMergeCmpFunc_intent_slot_intent_Ring_Live_1.f k x11 w24.1 (wrapA .i64 (w24.1 + x14)) x12 () w24.2).bind fun q25 =>
    some ((), q25.2))
      (some ((), w24.2)) : Option ((Unit) × H)).bind fun j26 =>
    ih x11 x12 () (wrapA .i64 (x14 * (2 : Int))) j26.2)
      (some ((), h15))) n
theorem slices_stableCmpFunc_intent_slot_intent_Ring_Live_1.l1_zero (k : Nat) (x11 : Sl) (x12 : Int) (x13 : Unit) (x14 : Int) (h15 : H) : slices_stableCmpFunc_intent_slot_intent_Ring_Live_1.l1 k 0 x11 x12 x13 x14 h15 = none := rfl
theorem slices_stableCmpFunc_intent_slot_intent_Ring_Live_1.l1_succ (k n : Nat) (x11 : Sl) (x12 : Int) (x13 : Unit) (x14 : Int) (h15 : H) : slices_stableCmpFunc_intent_slot_intent_Ring_Live_1.l1 k (n + 1) x11 x12 x13 x14 h15 = (cond (decide (x14 < x12))
      ((slices_stableCmpFunc_intent_slot_intent_Ring_Live_1.l2 k k x11 x12 () x14 (0 : Int) (wrapA .i64 ((2 : Int) * x14)) h15).bind fun w24 =>
    (cond (decide ((wrapA .i64 (w24.1 + x14)) < x12))
      ((slices_symMergeCmpFunc_intent_slot_intent_Ring_Live_1.f k x11 w24.1 (wrapA .i64 (w24.1 + x14)) x12 () w24.2).bind fun q25 =>
    some ((), q25.2))
      (some ((), w24.2)) : Option ((Unit) × H)).bind fun j26 =>
    slices_stableCmpFunc_intent_slot_intent_Ring_Live_1.l1 k n x11 x12 () (wrapA .i64 (x14 * (2 : Int))) j26.2)
      (some ((), h15))) := rfl
noncomputable def slices_stableCmpFunc_intent_slot_intent_Ring_Live_1.l0 (k : Nat) (n : Nat) : Sl → Int → Unit → Int → Int → Int → H → Option ((Int) × H) :=
  Nat.rec (motive := fun _ => Sl → Int → Unit → Int → Int → Int → H → Option ((Int) × H)) (fun _ _ _ _ _ _ _ => none) (fun _ ih x1 x2 x3 x4 x5 x6 h7 => cond (decide (x6 ≤ x2))
      ((slices_insertionSortCmpFunc_intent_slot_intent_Ring_Live_1.f k x1 x5 x6 () h7).bind fun q8 =>
    ih x1 x2 () x4 x6 (wrapA .i64 (x6 + x4)) q8.2)
      (some (x5, h7))) n
theorem slices_stableCmpFunc_intent_slot_intent_Ring_Live_1.l0_zero (k : Nat) (x1 : Sl) (x2 : Int) (x3 : Unit) (x4 : Int) (x5 : Int) (x6 : Int) (h7 : H) : slices_stableCmpFunc_intent_slot_intent_Ring_Live_1.l0 k 0 x1 x2 x3 x4 x5 x6 h7 = none := rfl
theorem slices_stableCmpFunc_intent_slot_intent_Ring_Live_1.l0_succ (k n : Nat) (x1 : Sl) (x2 : Int) (x3 : Unit) (x4 : Int) (x5 : Int) (x6 : Int) (h7 : H) : slices_stableCmpFunc_intent_slot_intent_Ring_Live_1.l0 k (n + 1) x1 x2 x3 x4 x5 x6 h7 = (cond (decide (x6 ≤ x2))
      ((slices_insertionSortCmpFunc_intent_slot_intent_Ring_Live_1.f k x1 x5 x6 () h7).bind fun q8 =>
    slices_stableCmpFunc_intent_slot_intent_Ring_Live_1.l0 k n x1 x2 () x4 x6 (wrapA .i64 (x6 + x4)) q8.2)
      (some (x5, h7))) := rfl
noncomputable def slices_stableCmpFunc_intent_slot_intent_Ring_Live_1.f (k : Nat) (a0 : Sl) (a1 : Int) (a2 : Unit) (h : H) : Option ((Unit) × H) :=
  (slices_stableCmpFunc_intent_slot_intent_Ring_Live_1.l0 k k a0 a1 () (20 : Int) (0 : Int) (20 : Int) h).bind fun w9 =>
    (slices_insertionSortCmpFunc_intent_slot_intent_Ring_Live_1.f k a0 w9.1 a1 () w9.2).bind fun q10 =>
    (slices_stableCmpFunc_intent_slot_intent_Ring_Live_1.l1 k k a0 a1 () (20 : Int) q10.2).bind fun w27 =>
    some ((), w27.2)
noncomputable def slices_stableCmpFunc_intent_slot_intent_Ring_Live_1.T (k : Nat) : Tbl := tblOf [⟨73, chkF [(3, 68)], wr [.sl, (.int .i64), (.int .i64), (.fn 68 0)] [] (fun a h => slices_insertionSortCmpFunc_intent_slot_intent_Ring_Live_1.f k (a.1) (a.2.1) (a.2.2.1) (a.2.2.2) h)⟩,
  ⟨74, chkF [(4, 68)], wr [.sl, (.int .i64), (.int .i64), (.int .i64), (.fn 68 0)] [] (fun a h => slices_symMergeCmpFunc_intent_slot_intent_Ring_Live_1.f k (a.1) (a.2.1) (a.2.2.1) (a.2.2.2.1) (a.2.2.2.2) h)⟩]
noncomputable def slices_stableCmpFunc_intent_slot_intent_Ring_Live_1.an (k : Nat) (p : Nat) : Option Ann := cond (Nat.beq p 62) (some (.pass [] (lrun [(0, .sl), (1, (.int .i64)), (2, (.fn 68 0)), (6, (.int .i64))] none [] 2 (fun a h => slices_stableCmpFunc_intent_slot_intent_Ring_Live_1.l1 k k (a.1) (a.2.1) (a.2.2.1) (a.2.2.2) h))))
  (cond (Nat.beq p 15963) (some (.join [0, 1, 2, 6] none []))
  (cond (Nat.beq p 3988) (some (.pass [0, 1, 2, 6] (lrun [(0, .sl), (1, (.int .i64)), (2, (.fn 68 0)), (6, (.int .i64)), (7, (.int .i64)), (8, (.int .i64))] none [(7, (.int .i64))] 4 (fun a h => slices_stableCmpFunc_intent_slot_intent_Ring_Live_1.l2 k k (a.1) (a.2.1) (a.2.2.1) (a.2.2.2.1) (a.2.2.2.2.1) (a.2.2.2.2.2) h))))
  (cond (Nat.beq p 28) (some (.pass [0, 1, 2, 6] (lrun [(0, .sl), (1, (.int .i64)), (2, (.fn 68 0)), (6, (.int .i64)), (7, (.int .i64)), (8, (.int .i64))] none [(7, (.int .i64))] 0 (fun a h => slices_stableCmpFunc_intent_slot_intent_Ring_Live_1.l0 k k (a.1) (a.2.1) (a.2.2.1) (a.2.2.2.1) (a.2.2.2.2.1) (a.2.2.2.2.2) h))))
  (none))))
noncomputable def slices_stableCmpFunc_intent_slot_intent_Ring_Live_1.body : Code := (Try.f72.body).getD .skip
noncomputable def slices_stableCmpFunc_intent_slot_intent_Ring_Live_1.c28 : Code := cat slices_stableCmpFunc_intent_slot_intent_Ring_Live_1.body [1, 1, 0, 0, 0]
noncomputable def slices_stableCmpFunc_intent_slot_intent_Ring_Live_1.c62 : Code := cat slices_stableCmpFunc_intent_slot_intent_Ring_Live_1.body [1, 1, 1, 1, 0, 0]
noncomputable def slices_stableCmpFunc_intent_slot_intent_Ring_Live_1.c3988 : Code := cat slices_stableCmpFunc_intent_slot_intent_Ring_Live_1.body [1, 1, 1, 1, 0, 0, 1, 0, 1, 0, 0, 0]
set_option maxRecDepth 100000 in
theorem slices_stableCmpFunc_intent_slot_intent_Ring_Live_1.TS {C : FuncId → Bool} {X : CallF} (hX : XOk C X) (k : Nat) : TblS Try.prog C X (slices_stableCmpFunc_intent_slot_intent_Ring_Live_1.T k) := by
  refine tblOf_sound ?_
  intro e he
  rcases List.mem_cons.1 he with rfl | he
  · exact wr_told (slices_insertionSortCmpFunc_intent_slot_intent_Ring_Live_1.told hX k)
  rcases List.mem_cons.1 he with rfl | he
  · exact wr_told (slices_symMergeCmpFunc_intent_slot_intent_Ring_Live_1.told hX k)
  exact absurd he List.not_mem_nil
set_option maxRecDepth 100000 in
theorem slices_stableCmpFunc_intent_slot_intent_Ring_Live_1.l2_pass {C : FuncId → Bool} {X : CallF} (hX : XOk C X) (k n : Nat) : PassS Try.prog C X 63 (.loop slices_stableCmpFunc_intent_slot_intent_Ring_Live_1.c3988) (lrun [(0, .sl), (1, (.int .i64)), (2, (.fn 68 0)), (6, (.int .i64)), (7, (.int .i64)), (8, (.int .i64))] none [(7, (.int .i64))] 4 (fun a h => slices_stableCmpFunc_intent_slot_intent_Ring_Live_1.l2 k n (a.1) (a.2.1) (a.2.2.1) (a.2.2.2.1) (a.2.2.2.2.1) (a.2.2.2.2.2) h)) :=
  loop_pass (ins := [(0, .sl), (1, (.int .i64)), (2, (.fn 68 0)), (6, (.int .i64)), (7, (.int .i64)), (8, (.int .i64))]) (rets := none) (outs := [(7, (.int .i64))]) (id := 4) (tbl := slices_stableCmpFunc_intent_slot_intent_Ring_Live_1.T k) (an := slices_stableCmpFunc_intent_slot_intent_Ring_Live_1.an k) (pb := 7976) (slices_stableCmpFunc_intent_slot_intent_Ring_Live_1.TS hX k) (fun n => (fun a h => slices_stableCmpFunc_intent_slot_intent_Ring_Live_1.l2 k n (a.1) (a.2.1) (a.2.2.1) (a.2.2.2.1) (a.2.2.2.2.1) (a.2.2.2.2.2) h)) (fun a h => rfl) (fun n a h => by kernel_rfl)
    (by
      have e : need (slices_stableCmpFunc_intent_slot_intent_Ring_Live_1.an k) slices_stableCmpFunc_intent_slot_intent_Ring_Live_1.c3988 7976 = [] := by kernel_rfl
      rw [e]; intro q hq; cases hq) n
set_option maxRecDepth 100000 in
theorem slices_stableCmpFunc_intent_slot_intent_Ring_Live_1.l1_pass {C : FuncId → Bool} {X : CallF} (hX : XOk C X) (k n : Nat) : PassS Try.prog C X 63 (.loop slices_stableCmpFunc_intent_slot_intent_Ring_Live_1.c62) (lrun [(0, .sl), (1, (.int .i64)), (2, (.fn 68 0)), (6, (.int .i64))] none [] 2 (fun a h => slices_stableCmpFunc_intent_slot_intent_Ring_Live_1.l1 k n (a.1) (a.2.1) (a.2.2.1) (a.2.2.2) h)) :=
  loop_pass (ins := [(0, .sl), (1, (.int .i64)), (2, (.fn 68 0)), (6, (.int .i64))]) (rets := none) (outs := []) (id := 2) (tbl := slices_stableCmpFunc_intent_slot_intent_Ring_Live_1.T k) (an := slices_stableCmpFunc_intent_slot_intent_Ring_Live_1.an k) (pb := 124) (slices_stableCmpFunc_intent_slot_intent_Ring_Live_1.TS hX k) (fun n => (fun a h => slices_stableCmpFunc_intent_slot_intent_Ring_Live_1.l1 k n (a.1) (a.2.1) (a.2.2.1) (a.2.2.2) h)) (fun a h => rfl) (fun n a h => by kernel_rfl)
    (by
      have e : need (slices_stableCmpFunc_intent_slot_intent_Ring_Live_1.an k) slices_stableCmpFunc_intent_slot_intent_Ring_Live_1.c62 124 = [(Code.loop slices_stableCmpFunc_intent_slot_intent_Ring_Live_1.c3988, lrun [(0, .sl), (1, (.int .i64)), (2, (.fn 68 0)), (6, (.int .i64)), (7, (.int .i64)), (8, (.int .i64))] none [(7, (.int .i64))] 4 (fun a h => slices_stableCmpFunc_intent_slot_intent_Ring_Live_1.l2 k k (a.1) (a.2.1) (a.2.2.1) (a.2.2.2.1) (a.2.2.2.2.1) (a.2.2.2.2.2) h))] := by kernel_rfl
      rw [e]; intro q hq
      rcases List.mem_cons.1 hq with rfl | hq
      · exact slices_stableCmpFunc_intent_slot_intent_Ring_Live_1.l2_pass hX k k
      cases hq) n
set_option maxRecDepth 100000 in
theorem slices_stableCmpFunc_intent_slot_intent_Ring_Live_1.l0_pass {C : FuncId → Bool} {X : CallF} (hX : XOk C X) (k n : Nat) : PassS Try.prog C X 63 (.loop slices_stableCmpFunc_intent_slot_intent_Ring_Live_1.c28) (lrun [(0, .sl), (1, (.int .i64)), (2, (.fn 68 0)), (6, (.int .i64)), (7, (.int .i64)), (8, (.int .i64))] none [(7, (.int .i64))] 0 (fun a h => slices_stableCmpFunc_intent_slot_intent_Ring_Live_1.l0 k n (a.1) (a.2.1) (a.2.2.1) (a.2.2.2.1) (a.2.2.2.2.1) (a.2.2.2.2.2) h)) :=
  loop_pass (ins := [(0, .sl), (1, (.int .i64)), (2, (.fn 68 0)), (6, (.int .i64)), (7, (.int .i64)), (8, (.int .i64))]) (rets := none) (outs := [(7, (.int .i64))]) (id := 0) (tbl := slices_stableCmpFunc_intent_slot_intent_Ring_Live_1.T k) (an := slices_stableCmpFunc_intent_slot_intent_Ring_Live_1.an k) (pb := 56) (slices_stableCmpFunc_intent_slot_intent_Ring_Live_1.TS hX k) (fun n => (fun a h => slices_stableCmpFunc_intent_slot_intent_Ring_Live_1.l0 k n (a.1) (a.2.1) (a.2.2.1) (a.2.2.2.1) (a.2.2.2.2.1) (a.2.2.2.2.2) h)) (fun a h => rfl) (fun n a h => by kernel_rfl)
    (by
      have e : need (slices_stableCmpFunc_intent_slot_intent_Ring_Live_1.an k) slices_stableCmpFunc_intent_slot_intent_Ring_Live_1.c28 56 = [] := by kernel_rfl
      rw [e]; intro q hq; cases hq) n
set_option maxRecDepth 100000 in
theorem slices_stableCmpFunc_intent_slot_intent_Ring_Live_1.eq (k : Nat) (a : RT [.sl, (.int .i64), (.fn 68 0)]) (h : H) : (fun a h => slices_stableCmpFunc_intent_slot_intent_Ring_Live_1.f k (a.1) (a.2.1) (a.2.2) h) a h = kfun Try.prog (slices_stableCmpFunc_intent_slot_intent_Ring_Live_1.T k) (slices_stableCmpFunc_intent_slot_intent_Ring_Live_1.an k) (RT [] × H) Try.f72 (encL [.sl, (.int .i64), (.fn 68 0)] a) h (fun vs h' => (decL [] vs).bind fun x => some (x, h')) := by kernel_rfl
set_option maxRecDepth 100000 in
theorem slices_stableCmpFunc_intent_slot_intent_Ring_Live_1.told {C : FuncId → Bool} {X : CallF} (hX : XOk C X) (k : Nat) : Den.Told Try.prog C X 72 [.sl, (.int .i64), (.fn 68 0)] [] (fun a h => slices_stableCmpFunc_intent_slot_intent_Ring_Live_1.f k (a.1) (a.2.1) (a.2.2) h) :=
  told_of fun a h q e => fn_of (c := slices_stableCmpFunc_intent_slot_intent_Ring_Live_1.body) (slices_stableCmpFunc_intent_slot_intent_Ring_Live_1.TS hX k) Try.func72 (by kernel_rfl) (hX.no 72 _ h (by decide))
    (by
      have e : need (slices_stableCmpFunc_intent_slot_intent_Ring_Live_1.an k) slices_stableCmpFunc_intent_slot_intent_Ring_Live_1.body 1 = [(Code.loop slices_stableCmpFunc_intent_slot_intent_Ring_Live_1.c28, lrun [(0, .sl), (1, (.int .i64)), (2, (.fn 68 0)), (6, (.int .i64)), (7, (.int .i64)), (8, (.int .i64))] none [(7, (.int .i64))] 0 (fun a h => slices_stableCmpFunc_intent_slot_intent_Ring_Live_1.l0 k k (a.1) (a.2.1) (a.2.2.1) (a.2.2.2.1) (a.2.2.2.2.1) (a.2.2.2.2.2) h)), (Code.loop slices_stableCmpFunc_intent_slot_intent_Ring_Live_1.c62, lrun [(0, .sl), (1, (.int .i64)), (2, (.fn 68 0)), (6, (.int .i64))] none [] 2 (fun a h => slices_stableCmpFunc_intent_slot_intent_Ring_Live_1.l1 k k (a.1) (a.2.1) (a.2.2.1) (a.2.2.2) h))] := by kernel_rfl
      rw [e]; intro q hq
      rcases List.mem_cons.1 hq with rfl | hq
      · exact slices_stableCmpFunc_intent_slot_intent_Ring_Live_1.l0_pass hX k k
      rcases List.mem_cons.1 hq with rfl | hq
      · exact slices_stableCmpFunc_intent_slot_intent_Ring_Live_1.l1_pass hX k k
      cases hq)
    ((slices_stableCmpFunc_intent_slot_intent_Ring_Live_1.eq k a h).symm.trans e)
/-! ### slices.SortStableFunc[[]corbel/intent.slot,corbel/intent.slot] -/
noncomputable def slices_SortStableFunc_intent_slot_intent_slot_intent_Ring_Live_1.f (k : Nat) (a0 : Sl) (a1 : Unit) (h : H) : Option ((Unit) × H) :=
  (slices_stableCmpFunc_intent_slot_intent_Ring_Live_1.f k a0 (Int.ofNat a0.n) () h).bind fun q1 =>
    some ((), q1.2)
noncomputable def slices_SortStableFunc_intent_slot_intent_slot_intent_Ring_Live_1.T (k : Nat) : Tbl := tblOf [⟨72, chkF [(2, 68)], wr [.sl, (.int .i64), (.fn 68 0)] [] (fun a h => slices_stableCmpFunc_intent_slot_intent_Ring_Live_1.f k (a.1) (a.2.1) (a.2.2) h)⟩]
noncomputable def slices_SortStableFunc_intent_slot_intent_slot_intent_Ring_Live_1.an (k : Nat) (p : Nat) : Option Ann := none
noncomputable def slices_SortStableFunc_intent_slot_intent_slot_intent_Ring_Live_1.body : Code := (Try.f67.body).getD .skip
set_option maxRecDepth 100000 in
theorem slices_SortStableFunc_intent_slot_intent_slot_intent_Ring_Live_1.TS {C : FuncId → Bool} {X : CallF} (hX : XOk C X) (k : Nat) : TblS Try.prog C X (slices_SortStableFunc_intent_slot_intent_slot_intent_Ring_Live_1.T k) := by
  refine tblOf_sound ?_
  intro e he
  rcases List.mem_cons.1 he with rfl | he
  · exact wr_told (slices_stableCmpFunc_intent_slot_intent_Ring_Live_1.told hX k)
  exact absurd he List.not_mem_nil
set_option maxRecDepth 100000 in
theorem slices_SortStableFunc_intent_slot_intent_slot_intent_Ring_Live_1.eq (k : Nat) (a : RT [.sl, (.fn 68 0)]) (h : H) : (fun a h => slices_SortStableFunc_intent_slot_intent_slot_intent_Ring_Live_1.f k (a.1) (a.2) h) a h = kfun Try.prog (slices_SortStableFunc_intent_slot_intent_slot_intent_Ring_Live_1.T k) (slices_SortStableFunc_intent_slot_intent_slot_intent_Ring_Live_1.an k) (RT [] × H) Try.f67 (encL [.sl, (.fn 68 0)] a) h (fun vs h' => (decL [] vs).bind fun x => some (x, h')) := by kernel_rfl
set_option maxRecDepth 100000 in
theorem slices_SortStableFunc_intent_slot_intent_slot_intent_Ring_Live_1.told {C : FuncId → Bool} {X : CallF} (hX : XOk C X) (k : Nat) : Den.Told Try.prog C X 67 [.sl, (.fn 68 0)] [] (fun a h => slices_SortStableFunc_intent_slot_intent_slot_intent_Ring_Live_1.f k (a.1) (a.2) h) :=
  told_of fun a h q e => fn_of (c := slices_SortStableFunc_intent_slot_intent_slot_intent_Ring_Live_1.body) (slices_SortStableFunc_intent_slot_intent_slot_intent_Ring_Live_1.TS hX k) Try.func67 (by kernel_rfl) (hX.no 67 _ h (by decide))
    (by
      have e : need (slices_SortStableFunc_intent_slot_intent_slot_intent_Ring_Live_1.an k) slices_SortStableFunc_intent_slot_intent_slot_intent_Ring_Live_1.body 1 = [] := by kernel_rfl
      rw [e]; intro q hq; cases hq)
    ((slices_SortStableFunc_intent_slot_intent_slot_intent_Ring_Live_1.eq k a h).symm.trans e)
/-! ### (*corbel/intent.Ring).Live -/
noncomputable def intent_Ring_Live.l1 (k : Nat) (n : Nat) : Sl → Int → Sl → Int → H → Option ((Sl) × H) :=
  Nat.rec (motive := fun _ => Sl → Int → Sl → Int → H → Option ((Sl) × H)) (fun _ _ _ _ _ => none) (fun _ ih x16 x17 x18 x19 h20 => cond (decide (x19 < x17))
      ((asP (ixs 5 x16.a x16.n x19)).bind fun p21 =>
    (asSt [.bool, (.int .i64), (.int .i64), (.int .i64), .sl] (lda 5 h20 p21)).bind fun s22 =>
    (stv 5 (newR h20 96 5 [(Value.bool false), (Value.int .i64 (0 : Int)), (Value.int .i64 (0 : Int)), (Value.int .i64 (0 : Int)), (Value.slice none 0 0)]) (some ⟨h20.next, 0, none⟩) [(Value.bool s22.1), (Value.int .i64 s22.2.1), (Value.int .i64 s22.2.2.1), (Value.int .i64 s22.2.2.2.1), (Value.slice s22.2.2.2.2.a s22.2.2.2.2.n s22.2.2.2.2.c)]).bind fun q23 =>
    (asS (ldc q23.2 (some ⟨h20.next, 4, none⟩))).bind fun s24 =>
    (slices_Clone_byte_byte.f k s24 q23.2).bind fun q25 =>
    (stv 1 q25.2 (some ⟨h20.next, 4, none⟩) [(Value.slice q25.1.a q25.1.n q25.1.c)]).bind fun q26 =>
    (asSt [(.int .i64), (.int .i64), .sl] (lda 3 q26.2 (some ⟨h20.next, 2, none⟩))).bind fun s27 =>
    (asS2 (apv 75 3 40 (Value.slice x18.a x18.n x18.c) (Value.slice (some ⟨q26.2.next, 0, none⟩) 1 1) (newR q26.2 75 3 [(Value.int .i64 s27.1), (Value.int .i64 s27.2.1), (Value.slice s27.2.2.a s27.2.2.n s27.2.2.c)]))).bind fun q28 =>
    ih x16 x17 q28.1 (wrapA .i64 (x19 + (1 : Int))) q28.2)
      (some (x18, h20))) n
theorem intent_Ring_Live.l1_zero (k : Nat) (x16 : Sl) (x17 : Int) (x18 : Sl) (x19 : Int) (h20 : H) : intent_Ring_Live.l1 k 0 x16 x17 x18 x19 h20 = none := rfl
theorem intent_Ring_Live.l1_succ (k n : Nat) (x16 : Sl) (x17 : Int) (x18 : Sl) (x19 : Int) (h20 : H) : intent_Ring_Live.l1 k (n + 1) x16 x17 x18 x19 h20 = (cond (decide (x19 < x17))
      ((asP (ixs 5 x16.a x16.n x19)).bind fun p21 =>
    (asSt [.bool, (.int .i64), (.int .i64), (.int .i64), .sl] (lda 5 h20 p21)).bind fun s22 =>
    (stv 5 (newR h20 96 5 [(Value.bool false), (Value.int .i64 (0 : Int)), (Value.int .i64 (0 : Int)), (Value.int .i64 (0 : Int)), (Value.slice none 0 0)]) (some ⟨h20.next, 0, none⟩) [(Value.bool s22.1), (Value.int .i64 s22.2.1), (Value.int .i64 s22.2.2.1), (Value.int .i64 s22.2.2.2.1), (Value.slice s22.2.2.2.2.a s22.2.2.2.2.n s22.2.2.2.2.c)]).bind fun q23 =>
    (asS (ldc q23.2 (some ⟨h20.next, 4, none⟩))).bind fun s24 =>
    (slices_Clone_byte_byte.f k s24 q23.2).bind fun q25 =>
    (stv 1 q25.2 (some ⟨h20.next, 4, none⟩) [(Value.slice q25.1.a q25.1.n q25.1.c)]).bind fun q26 =>
    (asSt [(.int .i64), (.int .i64), .sl] (lda 3 q26.2 (some ⟨h20.next, 2, none⟩))).bind fun s27 =>
    (asS2 (apv 75 3 40 (Value.slice x18.a x18.n x18.c) (Value.slice (some ⟨q26.2.next, 0, none⟩) 1 1) (newR q26.2 75 3 [(Value.int .i64 s27.1), (Value.int .i64 s27.2.1), (Value.slice s27.2.2.a s27.2.2.n s27.2.2.c)]))).bind fun q28 =>
    intent_Ring_Live.l1 k n x16 x17 q28.1 (wrapA .i64 (x19 + (1 : Int))) q28.2)
      (some (x18, h20))) := rfl
noncomputable def intent_Ring_Live.l0 (k : Nat) (n : Nat) : (Array Value) → Sl → Int → H → Option ((Sl) × H) :=
  Nat.rec (motive := fun _ => (Array Value) → Sl → Int → H → Option ((Sl) × H)) (fun _ _ _ _ => none) (fun _ ih x4 x5 x6 h7 => cond (decide (x6 < (16 : Int)))
      ((asSt [.bool, (.int .i64), (.int .i64), (.int .i64), .sl] (ixg 16 5 x4 x6)).bind fun s8 =>
    (stv 5 (newR h7 96 5 [(Value.bool false), (Value.int .i64 (0 : Int)), (Value.int .i64 (0 : Int)), (Value.int .i64 (0 : Int)), (Value.slice none 0 0)]) (some ⟨h7.next, 0, none⟩) [(Value.bool s8.1), (Value.int .i64 s8.2.1), (Value.int .i64 s8.2.2.1), (Value.int .i64 s8.2.2.2.1), (Value.slice s8.2.2.2.2.a s8.2.2.2.2.n s8.2.2.2.2.c)]).bind fun q9 =>
    (asB (ldc q9.2 (some ⟨h7.next, 0, none⟩))).bind fun b10 =>
    (cond b10
      ((asSt [.bool, (.int .i64), (.int .i64), (.int .i64), .sl] (lda 5 q9.2 (some ⟨h7.next, 0, none⟩))).bind fun s11 =>
    (asS2 (apv 96 5 56 (Value.slice x5.a x5.n x5.c) (Value.slice (some ⟨q9.2.next, 0, none⟩) 1 1) (newR q9.2 96 5 [(Value.bool s11.1), (Value.int .i64 s11.2.1), (Value.int .i64 s11.2.2.1), (Value.int .i64 s11.2.2.2.1), (Value.slice s11.2.2.2.2.a s11.2.2.2.2.n s11.2.2.2.2.c)]))).bind fun q12 =>
    some (q12.1, q12.2))
      (some (x5, q9.2)) : Option ((Sl) × H)).bind fun j13 =>
    ih x4 j13.1 (wrapA .i64 (x6 + (1 : Int))) j13.2)
      (some (x5, h7))) n
theorem intent_Ring_Live.l0_zero (k : Nat) (x4 : Array Value) (x5 : Sl) (x6 : Int) (h7 : H) : intent_Ring_Live.l0 k 0 x4 x5 x6 h7 = none := rfl
theorem intent_Ring_Live.l0_succ (k n : Nat) (x4 : Array Value) (x5 : Sl) (x6 : Int) (h7 : H) : intent_Ring_Live.l0 k (n + 1) x4 x5 x6 h7 = (cond (decide (x6 < (16 : Int)))
      ((asSt [.bool, (.int .i64), (.int .i64), (.int .i64), .sl] (ixg 16 5 x4 x6)).bind fun s8 =>
    (stv 5 (newR h7 96 5 [(Value.bool false), (Value.int .i64 (0 : Int)), (Value.int .i64 (0 : Int)), (Value.int .i64 (0 : Int)), (Value.slice none 0 0)]) (some ⟨h7.next, 0, none⟩) [(Value.bool s8.1), (Value.int .i64 s8.2.1), (Value.int .i64 s8.2.2.1), (Value.int .i64 s8.2.2.2.1), (Value.slice s8.2.2.2.2.a s8.2.2.2.2.n s8.2.2.2.2.c)]).bind fun q9 =>
    (asB (ldc q9.2 (some ⟨h7.next, 0, none⟩))).bind fun b10 =>
    (cond b10
      ((asSt [.bool, (.int .i64), (.int .i64), (.int .i64), .sl] (lda 5 q9.2 (some ⟨h7.next, 0, none⟩))).bind fun s11 =>
    (asS2 (apv 96 5 56 (Value.slice x5.a x5.n x5.c) (Value.slice (some ⟨q9.2.next, 0, none⟩) 1 1) (newR q9.2 96 5 [(Value.bool s11.1), (Value.int .i64 s11.2.1), (Value.int .i64 s11.2.2.1), (Value.int .i64 s11.2.2.2.1), (Value.slice s11.2.2.2.2.a s11.2.2.2.2.n s11.2.2.2.2.c)]))).bind fun q12 =>
    some (q12.1, q12.2))
      (some (x5, q9.2)) : Option ((Sl) × H)).bind fun j13 =>
    intent_Ring_Live.l0 k n x4 j13.1 (wrapA .i64 (x6 + (1 : Int))) j13.2)
      (some (x5, h7))) := rfl
noncomputable def intent_Ring_Live.f (k : Nat) (a0 : Option Addr) (h : H) : Option ((Sl) × H) :=
  (asP (nilA (Value.pointer a0))).bind fun p1 =>
    (asP (fadd 1 p1)).bind fun p2 =>
    (asA (lda 80 h p2)).bind fun a3 =>
    (intent_Ring_Live.l0 k k a3 (⟨none, 0, 0⟩ : Sl) (0 : Int) h).bind fun w14 =>
    (slices_SortStableFunc_intent_slot_intent_slot_intent_Ring_Live_1.f k w14.1 () w14.2).bind fun q15 =>
    (intent_Ring_Live.l1 k k w14.1 (Int.ofNat w14.1.n) (⟨none, 0, 0⟩ : Sl) (0 : Int) q15.2).bind fun w29 =>
    some (w29.1, w29.2)
noncomputable def intent_Ring_Live.T (k : Nat) : Tbl := tblOf [⟨67, chkF [(1, 68)], wr [.sl, (.fn 68 0)] [] (fun a h => slices_SortStableFunc_intent_slot_intent_slot_intent_Ring_Live_1.f k (a.1) (a.2) h)⟩,
  ⟨51, anyArgs, wr [.sl] [.sl] (fun a h => slices_Clone_byte_byte.f k a h)⟩]
noncomputable def intent_Ring_Live.an (k : Nat) (p : Nat) : Option Ann := cond (Nat.beq p 506) (some (.pass [] (lrun [(25, .sl), (26, (.int .i64)), (6, .sl), (27, (.int .i64))] none [(6, .sl)] 2 (fun a h => intent_Ring_Live.l1 k k (a.1) (a.2.1) (a.2.2.1) (a.2.2.2) h))))
  (cond (Nat.beq p 58) (some (.pass [] (lrun [(12, .agg), (3, .sl), (13, (.int .i64))] none [(3, .sl)] 0 (fun a h => intent_Ring_Live.l0 k k (a.1) (a.2.1) (a.2.2) h))))
  (cond (Nat.beq p 7475) (some (.join [12, 13] none [(3, .sl)]))
  (none)))
noncomputable def intent_Ring_Live.body : Code := (Try.f47.body).getD .skip
noncomputable def intent_Ring_Live.c58 : Code := cat intent_Ring_Live.body [1, 1, 0, 1, 0, 0]
noncomputable def intent_Ring_Live.c506 : Code := cat intent_Ring_Live.body [1, 1, 1, 1, 1, 0, 1, 0, 0]
set_option maxRecDepth 100000 in
theorem intent_Ring_Live.TS {C : FuncId → Bool} {X : CallF} (hX : XOk C X) (k : Nat) : TblS Try.prog C X (intent_Ring_Live.T k) := by
  refine tblOf_sound ?_
  intro e he
  rcases List.mem_cons.1 he with rfl | he
  · exact wr_told (slices_SortStableFunc_intent_slot_intent_slot_intent_Ring_Live_1.told hX k)
  rcases List.mem_cons.1 he with rfl | he
  · exact wr_told (slices_Clone_byte_byte.told hX k)
  exact absurd he List.not_mem_nil
set_option maxRecDepth 100000 in
theorem intent_Ring_Live.l1_pass {C : FuncId → Bool} {X : CallF} (hX : XOk C X) (k n : Nat) : PassS Try.prog C X 44 (.loop intent_Ring_Live.c506) (lrun [(25, .sl), (26, (.int .i64)), (6, .sl), (27, (.int .i64))] none [(6, .sl)] 2 (fun a h => intent_Ring_Live.l1 k n (a.1) (a.2.1) (a.2.2.1) (a.2.2.2) h)) :=
  loop_pass (ins := [(25, .sl), (26, (.int .i64)), (6, .sl), (27, (.int .i64))]) (rets := none) (outs := [(6, .sl)]) (id := 2) (tbl := intent_Ring_Live.T k) (an := intent_Ring_Live.an k) (pb := 1012) (intent_Ring_Live.TS hX k) (fun n => (fun a h => intent_Ring_Live.l1 k n (a.1) (a.2.1) (a.2.2.1) (a.2.2.2) h)) (fun a h => rfl) (fun n a h => by kernel_rfl)
    (by
      have e : need (intent_Ring_Live.an k) intent_Ring_Live.c506 1012 = [] := by kernel_rfl
      rw [e]; intro q hq; cases hq) n
set_option maxRecDepth 100000 in
theorem intent_Ring_Live.l0_pass {C : FuncId → Bool} {X : CallF} (hX : XOk C X) (k n : Nat) : PassS Try.prog C X 44 (.loop intent_Ring_Live.c58) (lrun [(12, .agg), (3, .sl), (13, (.int .i64))] none [(3, .sl)] 0 (fun a h => intent_Ring_Live.l0 k n (a.1) (a.2.1) (a.2.2) h)) :=
  loop_pass (ins := [(12, .agg), (3, .sl), (13, (.int .i64))]) (rets := none) (outs := [(3, .sl)]) (id := 0) (tbl := intent_Ring_Live.T k) (an := intent_Ring_Live.an k) (pb := 116) (intent_Ring_Live.TS hX k) (fun n => (fun a h => intent_Ring_Live.l0 k n (a.1) (a.2.1) (a.2.2) h)) (fun a h => rfl) (fun n a h => by kernel_rfl)
    (by
      have e : need (intent_Ring_Live.an k) intent_Ring_Live.c58 116 = [] := by kernel_rfl
      rw [e]; intro q hq; cases hq) n
set_option maxRecDepth 100000 in
theorem intent_Ring_Live.eq (k : Nat) (a : RT [.ptr]) (h : H) : (fun a h => intent_Ring_Live.f k a h) a h = kfun Try.prog (intent_Ring_Live.T k) (intent_Ring_Live.an k) (RT [.sl] × H) Try.f47 (encL [.ptr] a) h (fun vs h' => (decL [.sl] vs).bind fun x => some (x, h')) := by kernel_rfl
set_option maxRecDepth 100000 in
theorem intent_Ring_Live.told {C : FuncId → Bool} {X : CallF} (hX : XOk C X) (k : Nat) : Den.Told Try.prog C X 47 [.ptr] [.sl] (fun a h => intent_Ring_Live.f k a h) :=
  told_of fun a h q e => fn_of (c := intent_Ring_Live.body) (intent_Ring_Live.TS hX k) Try.func47 (by kernel_rfl) (hX.no 47 _ h (by decide))
    (by
      have e : need (intent_Ring_Live.an k) intent_Ring_Live.body 1 = [(Code.loop intent_Ring_Live.c58, lrun [(12, .agg), (3, .sl), (13, (.int .i64))] none [(3, .sl)] 0 (fun a h => intent_Ring_Live.l0 k k (a.1) (a.2.1) (a.2.2) h)), (Code.loop intent_Ring_Live.c506, lrun [(25, .sl), (26, (.int .i64)), (6, .sl), (27, (.int .i64))] none [(6, .sl)] 2 (fun a h => intent_Ring_Live.l1 k k (a.1) (a.2.1) (a.2.2.1) (a.2.2.2) h))] := by kernel_rfl
      rw [e]; intro q hq
      rcases List.mem_cons.1 hq with rfl | hq
      · exact intent_Ring_Live.l0_pass hX k k
      rcases List.mem_cons.1 hq with rfl | hq
      · exact intent_Ring_Live.l1_pass hX k k
      cases hq)
    ((intent_Ring_Live.eq k a h).symm.trans e)
/-! ### (*corbel/intent.Ring).Free -/
noncomputable def intent_Ring_Free.l0 (k : Nat) (n : Nat) : (Array Value) → Int → Int → H → Option ((Int) × H) :=
  Nat.rec (motive := fun _ => (Array Value) → Int → Int → H → Option ((Int) × H)) (fun _ _ _ _ => none) (fun _ ih x4 x5 x6 h7 => cond (decide (x6 < (16 : Int)))
      ((asSt [.bool, (.int .i64), (.int .i64), (.int .i64), .sl] (ixg 16 5 x4 x6)).bind fun s8 =>
    (stv 5 (newR h7 96 5 [(Value.bool false), (Value.int .i64 (0 : Int)), (Value.int .i64 (0 : Int)), (Value.int .i64 (0 : Int)), (Value.slice none 0 0)]) (some ⟨h7.next, 0, none⟩) [(Value.bool s8.1), (Value.int .i64 s8.2.1), (Value.int .i64 s8.2.2.1), (Value.int .i64 s8.2.2.2.1), (Value.slice s8.2.2.2.2.a s8.2.2.2.2.n s8.2.2.2.2.c)]).bind fun q9 =>
    (asB (ldc q9.2 (some ⟨h7.next, 0, none⟩))).bind fun b10 =>
    (cond (!b10)
      (some (wrapA .i64 (x5 + (1 : Int)), q9.2))
      (some (x5, q9.2)) : Option ((Int) × H)).bind fun j11 =>
    ih x4 j11.1 (wrapA .i64 (x6 + (1 : Int))) j11.2)
      (some (x5, h7))) n
theorem intent_Ring_Free.l0_zero (k : Nat) (x4 : Array Value) (x5 : Int) (x6 : Int) (h7 : H) : intent_Ring_Free.l0 k 0 x4 x5 x6 h7 = none := rfl
theorem intent_Ring_Free.l0_succ (k n : Nat) (x4 : Array Value) (x5 : Int) (x6 : Int) (h7 : H) : intent_Ring_Free.l0 k (n + 1) x4 x5 x6 h7 = (cond (decide (x6 < (16 : Int)))
      ((asSt [.bool, (.int .i64), (.int .i64), (.int .i64), .sl] (ixg 16 5 x4 x6)).bind fun s8 =>
    (stv 5 (newR h7 96 5 [(Value.bool false), (Value.int .i64 (0 : Int)), (Value.int .i64 (0 : Int)), (Value.int .i64 (0 : Int)), (Value.slice none 0 0)]) (some ⟨h7.next, 0, none⟩) [(Value.bool s8.1), (Value.int .i64 s8.2.1), (Value.int .i64 s8.2.2.1), (Value.int .i64 s8.2.2.2.1), (Value.slice s8.2.2.2.2.a s8.2.2.2.2.n s8.2.2.2.2.c)]).bind fun q9 =>
    (asB (ldc q9.2 (some ⟨h7.next, 0, none⟩))).bind fun b10 =>
    (cond (!b10)
      (some (wrapA .i64 (x5 + (1 : Int)), q9.2))
      (some (x5, q9.2)) : Option ((Int) × H)).bind fun j11 =>
    intent_Ring_Free.l0 k n x4 j11.1 (wrapA .i64 (x6 + (1 : Int))) j11.2)
      (some (x5, h7))) := rfl
noncomputable def intent_Ring_Free.f (k : Nat) (a0 : Option Addr) (h : H) : Option ((Int) × H) :=
  (asP (nilA (Value.pointer a0))).bind fun p1 =>
    (asP (fadd 1 p1)).bind fun p2 =>
    (asA (lda 80 h p2)).bind fun a3 =>
    (intent_Ring_Free.l0 k k a3 (0 : Int) (0 : Int) h).bind fun w12 =>
    some (w12.1, w12.2)
noncomputable def intent_Ring_Free.T (k : Nat) : Tbl := tblOf []
noncomputable def intent_Ring_Free.an (k : Nat) (p : Nat) : Option Ann := cond (Nat.beq p 58) (some (.pass [] (lrun [(9, .agg), (3, (.int .i64)), (10, (.int .i64))] none [(3, (.int .i64))] 0 (fun a h => intent_Ring_Free.l0 k k (a.1) (a.2.1) (a.2.2) h))))
  (cond (Nat.beq p 7475) (some (.join [9, 10] none [(3, (.int .i64))]))
  (none))
noncomputable def intent_Ring_Free.body : Code := (Try.f49.body).getD .skip
noncomputable def intent_Ring_Free.c58 : Code := cat intent_Ring_Free.body [1, 1, 0, 1, 0, 0]
set_option maxRecDepth 100000 in
theorem intent_Ring_Free.TS {C : FuncId → Bool} {X : CallF} (hX : XOk C X) (k : Nat) : TblS Try.prog C X (intent_Ring_Free.T k) := by
  refine tblOf_sound ?_
  intro e he
  exact absurd he List.not_mem_nil
set_option maxRecDepth 100000 in
theorem intent_Ring_Free.l0_pass {C : FuncId → Bool} {X : CallF} (hX : XOk C X) (k n : Nat) : PassS Try.prog C X 20 (.loop intent_Ring_Free.c58) (lrun [(9, .agg), (3, (.int .i64)), (10, (.int .i64))] none [(3, (.int .i64))] 0 (fun a h => intent_Ring_Free.l0 k n (a.1) (a.2.1) (a.2.2) h)) :=
  loop_pass (ins := [(9, .agg), (3, (.int .i64)), (10, (.int .i64))]) (rets := none) (outs := [(3, (.int .i64))]) (id := 0) (tbl := intent_Ring_Free.T k) (an := intent_Ring_Free.an k) (pb := 116) (intent_Ring_Free.TS hX k) (fun n => (fun a h => intent_Ring_Free.l0 k n (a.1) (a.2.1) (a.2.2) h)) (fun a h => rfl) (fun n a h => by kernel_rfl)
    (by
      have e : need (intent_Ring_Free.an k) intent_Ring_Free.c58 116 = [] := by kernel_rfl
      rw [e]; intro q hq; cases hq) n
set_option maxRecDepth 100000 in
theorem intent_Ring_Free.eq (k : Nat) (a : RT [.ptr]) (h : H) : (fun a h => intent_Ring_Free.f k a h) a h = kfun Try.prog (intent_Ring_Free.T k) (intent_Ring_Free.an k) (RT [(.int .i64)] × H) Try.f49 (encL [.ptr] a) h (fun vs h' => (decL [(.int .i64)] vs).bind fun x => some (x, h')) := by kernel_rfl
set_option maxRecDepth 100000 in
theorem intent_Ring_Free.told {C : FuncId → Bool} {X : CallF} (hX : XOk C X) (k : Nat) : Den.Told Try.prog C X 49 [.ptr] [(.int .i64)] (fun a h => intent_Ring_Free.f k a h) :=
  told_of fun a h q e => fn_of (c := intent_Ring_Free.body) (intent_Ring_Free.TS hX k) Try.func49 (by kernel_rfl) (hX.no 49 _ h (by decide))
    (by
      have e : need (intent_Ring_Free.an k) intent_Ring_Free.body 1 = [(Code.loop intent_Ring_Free.c58, lrun [(9, .agg), (3, (.int .i64)), (10, (.int .i64))] none [(3, (.int .i64))] 0 (fun a h => intent_Ring_Free.l0 k k (a.1) (a.2.1) (a.2.2) h))] := by kernel_rfl
      rw [e]; intro q hq
      rcases List.mem_cons.1 hq with rfl | hq
      · exact intent_Ring_Free.l0_pass hX k k
      cases hq)
    ((intent_Ring_Free.eq k a h).symm.trans e)
/-! ### corbel/corbellaw9.IntentFrees -/
noncomputable def corbellaw9_IntentFrees.l2 (k : Nat) (n : Nat) : Sl → Int → (Option Addr) → Sl → Int → Int → Int → Int → Sl → Int → Sl → Int → H → Option ((Sl) × H) :=
  Nat.rec (motive := fun _ => Sl → Int → (Option Addr) → Sl → Int → Int → Int → Int → Sl → Int → Sl → Int → H → Option ((Sl) × H)) (fun _ _ _ _ _ _ _ _ _ _ _ _ _ => none) (fun _ ih x34 x35 x36 x37 x38 x39 x40 x41 x42 x43 x44 x45 h46 => cond (decide (x45 < x43))
      ((asP (ixs 3 x42.a x42.n x45)).bind fun p47 =>
    (asSt [(.int .i64), (.int .i64), .sl] (lda 3 h46 p47)).bind fun s48 =>
    (stv 3 (newR h46 75 3 [(Value.int .i64 (0 : Int)), (Value.int .i64 (0 : Int)), (Value.slice none 0 0)]) (some ⟨h46.next, 0, none⟩) [(Value.int .i64 s48.1), (Value.int .i64 s48.2.1), (Value.slice s48.2.2.a s48.2.2.n s48.2.2.c)]).bind fun q49 =>
    (asI .i64 (ldc q49.2 (some ⟨h46.next, 0, none⟩))).bind fun n50 =>
    (cond (n50 != x40)
      ((asSt [(.int .i64), (.int .i64), .sl] (lda 3 q49.2 (some ⟨h46.next, 0, none⟩))).bind fun s51 =>
    (asS2 (apv 75 3 40 (Value.slice x44.a x44.n x44.c) (Value.slice (some ⟨q49.2.next, 0, none⟩) 1 1) (newR q49.2 75 3 [(Value.int .i64 s51.1), (Value.int .i64 s51.2.1), (Value.slice s51.2.2.a s51.2.2.n s51.2.2.c)]))).bind fun q52 =>
    some (q52.1, q52.2))
      (some (x44, q49.2)) : Option ((Sl) × H)).bind fun j53 =>
    ih x34 x35 x36 x37 x38 x39 x40 x41 x42 x43 j53.1 (wrapA .i64 (x45 + (1 : Int))) j53.2)
      (some (x44, h46))) n
theorem corbellaw9_IntentFrees.l2_zero (k : Nat) (x34 : Sl) (x35 : Int) (x36 : Option Addr) (x37 : Sl) (x38 : Int) (x39 : Int) (x40 : Int) (x41 : Int) (x42 : Sl) (x43 : Int) (x44 : Sl) (x45 : Int) (h46 : H) : corbellaw9_IntentFrees.l2 k 0 x34 x35 x36 x37 x38 x39 x40 x41 x42 x43 x44 x45 h46 = none := rfl
theorem corbellaw9_IntentFrees.l2_succ (k n : Nat) (x34 : Sl) (x35 : Int) (x36 : Option Addr) (x37 : Sl) (x38 : Int) (x39 : Int) (x40 : Int) (x41 : Int) (x42 : Sl) (x43 : Int) (x44 : Sl) (x45 : Int) (h46 : H) : corbellaw9_IntentFrees.l2 k (n + 1) x34 x35 x36 x37 x38 x39 x40 x41 x42 x43 x44 x45 h46 = (cond (decide (x45 < x43))
      ((asP (ixs 3 x42.a x42.n x45)).bind fun p47 =>
    (asSt [(.int .i64), (.int .i64), .sl] (lda 3 h46 p47)).bind fun s48 =>
    (stv 3 (newR h46 75 3 [(Value.int .i64 (0 : Int)), (Value.int .i64 (0 : Int)), (Value.slice none 0 0)]) (some ⟨h46.next, 0, none⟩) [(Value.int .i64 s48.1), (Value.int .i64 s48.2.1), (Value.slice s48.2.2.a s48.2.2.n s48.2.2.c)]).bind fun q49 =>
    (asI .i64 (ldc q49.2 (some ⟨h46.next, 0, none⟩))).bind fun n50 =>
    (cond (n50 != x40)
      ((asSt [(.int .i64), (.int .i64), .sl] (lda 3 q49.2 (some ⟨h46.next, 0, none⟩))).bind fun s51 =>
    (asS2 (apv 75 3 40 (Value.slice x44.a x44.n x44.c) (Value.slice (some ⟨q49.2.next, 0, none⟩) 1 1) (newR q49.2 75 3 [(Value.int .i64 s51.1), (Value.int .i64 s51.2.1), (Value.slice s51.2.2.a s51.2.2.n s51.2.2.c)]))).bind fun q52 =>
    some (q52.1, q52.2))
      (some (x44, q49.2)) : Option ((Sl) × H)).bind fun j53 =>
    corbellaw9_IntentFrees.l2 k n x34 x35 x36 x37 x38 x39 x40 x41 x42 x43 j53.1 (wrapA .i64 (x45 + (1 : Int))) j53.2)
      (some (x44, h46))) := rfl
noncomputable def corbellaw9_IntentFrees.l4 (k : Nat) (n : Nat) : Sl → Sl → Int → Int → H → Option (((Bool) ⊕ (Unit)) × H) :=
  Nat.rec (motive := fun _ => Sl → Sl → Int → Int → H → Option (((Bool) ⊕ (Unit)) × H)) (fun _ _ _ _ _ => none) (fun _ ih x79 x80 x81 x82 h83 => cond (decide (x82 < x81))
      ((asP (ixs 3 x80.a x80.n x82)).bind fun p84 =>
    (asSt [(.int .i64), (.int .i64), .sl] (lda 3 h83 p84)).bind fun s85 =>
    (asP (ixs 3 x79.a x79.n x82)).bind fun p86 =>
    (asSt [(.int .i64), (.int .i64), .sl] (lda 3 h83 p86)).bind fun s87 =>
    (intent_Same.f k (s85.1, s85.2.1, s85.2.2) (s87.1, s87.2.1, s87.2.2) h83).bind fun q88 =>
    cond (!q88.1)
      (some (Sum.inl false, q88.2))
      (ih x79 x80 x81 (wrapA .i64 (x82 + (1 : Int))) q88.2))
      (some (Sum.inr (), h83))) n
theorem corbellaw9_IntentFrees.l4_zero (k : Nat) (x79 : Sl) (x80 : Sl) (x81 : Int) (x82 : Int) (h83 : H) : corbellaw9_IntentFrees.l4 k 0 x79 x80 x81 x82 h83 = none := rfl
theorem corbellaw9_IntentFrees.l4_succ (k n : Nat) (x79 : Sl) (x80 : Sl) (x81 : Int) (x82 : Int) (h83 : H) : corbellaw9_IntentFrees.l4 k (n + 1) x79 x80 x81 x82 h83 = (cond (decide (x82 < x81))
      ((asP (ixs 3 x80.a x80.n x82)).bind fun p84 =>
    (asSt [(.int .i64), (.int .i64), .sl] (lda 3 h83 p84)).bind fun s85 =>
    (asP (ixs 3 x79.a x79.n x82)).bind fun p86 =>
    (asSt [(.int .i64), (.int .i64), .sl] (lda 3 h83 p86)).bind fun s87 =>
    (intent_Same.f k (s85.1, s85.2.1, s85.2.2) (s87.1, s87.2.1, s87.2.2) h83).bind fun q88 =>
    cond (!q88.1)
      (some (Sum.inl false, q88.2))
      (corbellaw9_IntentFrees.l4 k n x79 x80 x81 (wrapA .i64 (x82 + (1 : Int))) q88.2))
      (some (Sum.inr (), h83))) := rfl
noncomputable def corbellaw9_IntentFrees.l3 (k : Nat) (n : Nat) : Int → (Option Addr) → Int → Sl → Int → H → Option (((Bool) ⊕ (Sl)) × H) :=
  Nat.rec (motive := fun _ => Int → (Option Addr) → Int → Sl → Int → H → Option (((Bool) ⊕ (Sl)) × H)) (fun _ _ _ _ _ _ => none) (fun _ ih x60 x61 x62 x63 x64 h65 => cond (decide (x64 < x62))
      ((corbellaw9_one.f k (wrapA .i64 ((20 : Int) + x64)) (4 : Int) (wrapA .i64 (x60 + x64)) h65).bind fun q66 =>
    (stv 3 (newR q66.2 75 3 [(Value.int .i64 (0 : Int)), (Value.int .i64 (0 : Int)), (Value.slice none 0 0)]) (some ⟨q66.2.next, 0, none⟩) [(Value.int .i64 q66.1.1), (Value.int .i64 q66.1.2.1), (Value.slice q66.1.2.2.a q66.1.2.2.n q66.1.2.2.c)]).bind fun q67 =>
    (asSt [(.int .i64), (.int .i64), .sl] (lda 3 q67.2 (some ⟨q66.2.next, 0, none⟩))).bind fun s68 =>
    (intent_Ring_Log.f k x61 (s68.1, s68.2.1, s68.2.2) q67.2).bind fun q69 =>
    cond (q69.1 != (0 : Int))
      (some (Sum.inl false, q69.2))
      ((asSt [(.int .i64), (.int .i64), .sl] (lda 3 q69.2 (some ⟨q66.2.next, 0, none⟩))).bind fun s70 =>
    (asS2 (apv 75 3 40 (Value.slice x63.a x63.n x63.c) (Value.slice (some ⟨q69.2.next, 0, none⟩) 1 1) (newR q69.2 75 3 [(Value.int .i64 s70.1), (Value.int .i64 s70.2.1), (Value.slice s70.2.2.a s70.2.2.n s70.2.2.c)]))).bind fun q71 =>
    ih x60 x61 x62 q71.1 (wrapA .i64 (x64 + (1 : Int))) q71.2))
      (some (Sum.inr x63, h65))) n
theorem corbellaw9_IntentFrees.l3_zero (k : Nat) (x60 : Int) (x61 : Option Addr) (x62 : Int) (x63 : Sl) (x64 : Int) (h65 : H) : corbellaw9_IntentFrees.l3 k 0 x60 x61 x62 x63 x64 h65 = none := rfl
theorem corbellaw9_IntentFrees.l3_succ (k n : Nat) (x60 : Int) (x61 : Option Addr) (x62 : Int) (x63 : Sl) (x64 : Int) (h65 : H) : corbellaw9_IntentFrees.l3 k (n + 1) x60 x61 x62 x63 x64 h65 = (cond (decide (x64 < x62))
      ((corbellaw9_one.f k (wrapA .i64 ((20 : Int) + x64)) (4 : Int) (wrapA .i64 (x60 + x64)) h65).bind fun q66 =>
    (stv 3 (newR q66.2 75 3 [(Value.int .i64 (0 : Int)), (Value.int .i64 (0 : Int)), (Value.slice none 0 0)]) (some ⟨q66.2.next, 0, none⟩) [(Value.int .i64 q66.1.1), (Value.int .i64 q66.1.2.1), (Value.slice q66.1.2.2.a q66.1.2.2.n q66.1.2.2.c)]).bind fun q67 =>
    (asSt [(.int .i64), (.int .i64), .sl] (lda 3 q67.2 (some ⟨q66.2.next, 0, none⟩))).bind fun s68 =>
    (intent_Ring_Log.f k x61 (s68.1, s68.2.1, s68.2.2) q67.2).bind fun q69 =>
    cond (q69.1 != (0 : Int))
      (some (Sum.inl false, q69.2))
      ((asSt [(.int .i64), (.int .i64), .sl] (lda 3 q69.2 (some ⟨q66.2.next, 0, none⟩))).bind fun s70 =>
    (asS2 (apv 75 3 40 (Value.slice x63.a x63.n x63.c) (Value.slice (some ⟨q69.2.next, 0, none⟩) 1 1) (newR q69.2 75 3 [(Value.int .i64 s70.1), (Value.int .i64 s70.2.1), (Value.slice s70.2.2.a s70.2.2.n s70.2.2.c)]))).bind fun q71 =>
    corbellaw9_IntentFrees.l3 k n x60 x61 x62 q71.1 (wrapA .i64 (x64 + (1 : Int))) q71.2))
      (some (Sum.inr x63, h65))) := rfl
noncomputable def corbellaw9_IntentFrees.l1 (k : Nat) (n : Nat) : Sl → Int → (Option Addr) → Sl → Int → Int → H → Option (((Bool) ⊕ (Sl × Int)) × H) :=
  Nat.rec (motive := fun _ => Sl → Int → (Option Addr) → Sl → Int → Int → H → Option (((Bool) ⊕ (Sl × Int)) × H)) (fun _ _ _ _ _ _ _ => none) (fun _ ih x22 x23 x24 x25 x26 x27 h28 => (cond (decide (x27 < (Int.ofNat x22.n))) (some (decide (x27 < (20 : Int)), h28))
      (some (false, h28))).bind fun g29 =>
    cond g29.1
      ((asP (ixs 1 x22.a x22.n x27)).bind fun p30 =>
    (asI .i64 (ldc g29.2 p30)).bind fun n31 =>
    (corbelhand_Pick.f k n31 (18 : Int) g29.2).bind fun q32 =>
    (intent_Ring_Release.f k x24 q32.1 (3 : Int) q32.2).bind fun q33 =>
    (corbellaw9_IntentFrees.l2 k k x22 x23 x24 x25 x26 x27 q32.1 q33.1 x25 (Int.ofNat x25.n) (⟨none, 0, 0⟩ : Sl) (0 : Int) q33.2).bind fun w54 =>
    (cond (q33.1 != (wrapA .i64 ((Int.ofNat x25.n) - (Int.ofNat w54.1.n)))) (some (true, w54.2))
      ((intent_Ring_Release.f k x24 q32.1 (2 : Int) w54.2).bind fun q55 =>
    some (q55.1 != (0 : Int), q55.2))).bind fun g56 =>
    cond g56.1
      (some (Sum.inl false, g56.2))
      (ih x22 x23 x24 w54.1 (wrapA .i64 (x26 + q33.1)) (wrapA .i64 (x27 + (1 : Int))) g56.2))
      (some (Sum.inr (x25, x26), g29.2))) n
theorem corbellaw9_IntentFrees.l1_zero (k : Nat) (x22 : Sl) (x23 : Int) (x24 : Option Addr) (x25 : Sl) (x26 : Int) (x27 : Int) (h28 : H) : corbellaw9_IntentFrees.l1 k 0 x22 x23 x24 x25 x26 x27 h28 = none := rfl
theorem corbellaw9_IntentFrees.l1_succ (k n : Nat) (x22 : Sl) (x23 : Int) (x24 : Option Addr) (x25 : Sl) (x26 : Int) (x27 : Int) (h28 : H) : corbellaw9_IntentFrees.l1 k (n + 1) x22 x23 x24 x25 x26 x27 h28 = ((cond (decide (x27 < (Int.ofNat x22.n))) (some (decide (x27 < (20 : Int)), h28))
      (some (false, h28))).bind fun g29 =>
    cond g29.1
      ((asP (ixs 1 x22.a x22.n x27)).bind fun p30 =>
    (asI .i64 (ldc g29.2 p30)).bind fun n31 =>
    (corbelhand_Pick.f k n31 (18 : Int) g29.2).bind fun q32 =>
    (intent_Ring_Release.f k x24 q32.1 (3 : Int) q32.2).bind fun q33 =>
    (corbellaw9_IntentFrees.l2 k k x22 x23 x24 x25 x26 x27 q32.1 q33.1 x25 (Int.ofNat x25.n) (⟨none, 0, 0⟩ : Sl) (0 : Int) q33.2).bind fun w54 =>
    (cond (q33.1 != (wrapA .i64 ((Int.ofNat x25.n) - (Int.ofNat w54.1.n)))) (some (true, w54.2))
      ((intent_Ring_Release.f k x24 q32.1 (2 : Int) w54.2).bind fun q55 =>
    some (q55.1 != (0 : Int), q55.2))).bind fun g56 =>
    cond g56.1
      (some (Sum.inl false, g56.2))
      (corbellaw9_IntentFrees.l1 k n x22 x23 x24 w54.1 (wrapA .i64 (x26 + q33.1)) (wrapA .i64 (x27 + (1 : Int))) g56.2))
      (some (Sum.inr (x25, x26), g29.2))) := rfl
noncomputable def corbellaw9_IntentFrees.l0 (k : Nat) (n : Nat) : Sl → Int → (Option Addr) → Sl → Int → H → Option (((Bool) ⊕ (Sl)) × H) :=
  Nat.rec (motive := fun _ => Sl → Int → (Option Addr) → Sl → Int → H → Option (((Bool) ⊕ (Sl)) × H)) (fun _ _ _ _ _ _ => none) (fun _ ih x8 x9 x10 x11 x12 h13 => cond (decide (x12 < (16 : Int)))
      ((corbellaw9_one.f k x12 (3 : Int) x12 h13).bind fun q14 =>
    (asS2 (apv 75 3 40 (Value.slice x11.a x11.n x11.c) (Value.slice (some ⟨q14.2.next, 0, none⟩) 1 1) (newR q14.2 75 3 [(Value.int .i64 q14.1.1), (Value.int .i64 q14.1.2.1), (Value.slice q14.1.2.2.a q14.1.2.2.n q14.1.2.2.c)]))).bind fun q15 =>
    (asP (ixs 3 q15.1.a q15.1.n x12)).bind fun p16 =>
    (asSt [(.int .i64), (.int .i64), .sl] (lda 3 q15.2 p16)).bind fun s17 =>
    (intent_Ring_Log.f k x10 (s17.1, s17.2.1, s17.2.2) q15.2).bind fun q18 =>
    cond (q18.1 != (0 : Int))
      (some (Sum.inl false, q18.2))
      (ih x8 x9 x10 q15.1 (wrapA .i64 (x12 + (1 : Int))) q18.2))
      (some (Sum.inr x11, h13))) n
theorem corbellaw9_IntentFrees.l0_zero (k : Nat) (x8 : Sl) (x9 : Int) (x10 : Option Addr) (x11 : Sl) (x12 : Int) (h13 : H) : corbellaw9_IntentFrees.l0 k 0 x8 x9 x10 x11 x12 h13 = none := rfl
theorem corbellaw9_IntentFrees.l0_succ (k n : Nat) (x8 : Sl) (x9 : Int) (x10 : Option Addr) (x11 : Sl) (x12 : Int) (h13 : H) : corbellaw9_IntentFrees.l0 k (n + 1) x8 x9 x10 x11 x12 h13 = (cond (decide (x12 < (16 : Int)))
      ((corbellaw9_one.f k x12 (3 : Int) x12 h13).bind fun q14 =>
    (asS2 (apv 75 3 40 (Value.slice x11.a x11.n x11.c) (Value.slice (some ⟨q14.2.next, 0, none⟩) 1 1) (newR q14.2 75 3 [(Value.int .i64 q14.1.1), (Value.int .i64 q14.1.2.1), (Value.slice q14.1.2.2.a q14.1.2.2.n q14.1.2.2.c)]))).bind fun q15 =>
    (asP (ixs 3 q15.1.a q15.1.n x12)).bind fun p16 =>
    (asSt [(.int .i64), (.int .i64), .sl] (lda 3 q15.2 p16)).bind fun s17 =>
    (intent_Ring_Log.f k x10 (s17.1, s17.2.1, s17.2.2) q15.2).bind fun q18 =>
    cond (q18.1 != (0 : Int))
      (some (Sum.inl false, q18.2))
      (corbellaw9_IntentFrees.l0 k n x8 x9 x10 q15.1 (wrapA .i64 (x12 + (1 : Int))) q18.2))
      (some (Sum.inr x11, h13))) := rfl
noncomputable def corbellaw9_IntentFrees.f (k : Nat) (a0 : Sl) (a1 : Int) (h : H) : Option ((Bool) × H) :=
  (platter_New.f k (96 : Int) h).bind fun q1 =>
    (intent_Open.f k q1.1 q1.2).bind fun q2 =>
    (cond (!true) (some (true, q2.2))
      ((asB (binO1 Try.prog .eql 42 (Value.pointer q1.1) (Value.pointer none))).bind fun b3 =>
    some (b3, q2.2))).bind fun g4 =>
    (cond g4.1 (some (true, g4.2))
      (some (q2.1.2 != (0 : Int), g4.2))).bind fun g5 =>
    (cond g5.1 (some (true, g5.2))
      ((asB (binO1 Try.prog .eql 70 (Value.pointer q2.1.1) (Value.pointer none))).bind fun b6 =>
    some (b6, g5.2))).bind fun g7 =>
    cond g7.1
      (some (false, g7.2))
      ((corbellaw9_IntentFrees.l0 k k a0 a1 q2.1.1 (⟨none, 0, 0⟩ : Sl) (0 : Int) g7.2).bind fun w19 =>
    match w19.1 with
    | .inl r20 => some (r20, w19.2)
    | .inr o21 => (corbellaw9_IntentFrees.l1 k k a0 a1 q2.1.1 o21 (0 : Int) (0 : Int) w19.2).bind fun w57 =>
    match w57.1 with
    | .inl r58 => some (r58, w57.2)
    | .inr o59 => (corbellaw9_IntentFrees.l3 k k a1 q2.1.1 o59.2 o59.1 (0 : Int) w57.2).bind fun w72 =>
    match w72.1 with
    | .inl r73 => some (r73, w72.2)
    | .inr o74 => (intent_Ring_Live.f k q2.1.1 w72.2).bind fun q75 =>
    (cond ((Int.ofNat q75.1.n) != (16 : Int)) (some (true, q75.2))
      ((corbellaw9_one.f k (39 : Int) (9 : Int) (9 : Int) q75.2).bind fun q76 =>
    (intent_Ring_Log.f k q2.1.1 (q76.1.1, q76.1.2.1, q76.1.2.2) q76.2).bind fun q77 =>
    some (q77.1 != (6 : Int), q77.2))).bind fun g78 =>
    cond g78.1
      (some (false, g78.2))
      ((corbellaw9_IntentFrees.l4 k k o74 q75.1 (Int.ofNat q75.1.n) (0 : Int) g78.2).bind fun w89 =>
    match w89.1 with
    | .inl r90 => some (r90, w89.2)
    | .inr o91 => some (true, w89.2)))
noncomputable def corbellaw9_IntentFrees.T (k : Nat) : Tbl := tblOf [⟨24, anyArgs, wr [(.int .i64)] [.ptr] (fun a h => platter_New.f k a h)⟩,
  ⟨42, anyArgs, wr [.ptr] [.ptr, (.int .i64)] (fun a h => intent_Open.f k a h)⟩,
  ⟨43, anyArgs, knownW⟩,
  ⟨44, anyArgs, wr [(.int .i64), (.int .i64), (.int .i64)] [(.st [(.int .i64), (.int .i64), .sl])] (fun a h => corbellaw9_one.f k (a.1) (a.2.1) (a.2.2) h)⟩,
  ⟨45, anyArgs, wr [.ptr, (.st [(.int .i64), (.int .i64), .sl])] [(.int .i64)] (fun a h => intent_Ring_Log.f k (a.1) (a.2) h)⟩,
  ⟨17, anyArgs, wr [(.int .i64), (.int .i64)] [(.int .i64)] (fun a h => corbelhand_Pick.f k (a.1) (a.2) h)⟩,
  ⟨46, anyArgs, wr [.ptr, (.int .i64), (.int .i64)] [(.int .i64)] (fun a h => intent_Ring_Release.f k (a.1) (a.2.1) (a.2.2) h)⟩,
  ⟨47, anyArgs, wr [.ptr] [.sl] (fun a h => intent_Ring_Live.f k a h)⟩,
  ⟨48, anyArgs, wr [(.st [(.int .i64), (.int .i64), .sl]), (.st [(.int .i64), (.int .i64), .sl])] [.bool] (fun a h => intent_Same.f k (a.1) (a.2) h)⟩]
noncomputable def corbellaw9_IntentFrees.an (k : Nat) (p : Nat) : Option Ann := cond (Nat.beq p 32762) (some (.pass [] (lrun [(8, .sl), (19, .sl), (139, (.int .i64)), (140, (.int .i64))] (some [(4, .bool)]) [] 8 (fun a h => corbellaw9_IntentFrees.l4 k k (a.1) (a.2.1) (a.2.2.1) (a.2.2.2) h))))
  (cond (Nat.beq p 4090) (some (.pass [6] (lrun [(1, (.int .i64)), (6, .ptr), (10, (.int .i64)), (8, .sl), (17, (.int .i64))] (some [(4, .bool)]) [(8, .sl)] 6 (fun a h => corbellaw9_IntentFrees.l3 k k (a.1) (a.2.1) (a.2.2.1) (a.2.2.2.1) (a.2.2.2.2) h))))
  (cond (Nat.beq p 2042) (some (.pass [1, 6] (lrun [(0, .sl), (1, (.int .i64)), (6, .ptr), (8, .sl), (10, (.int .i64)), (11, (.int .i64))] (some [(4, .bool)]) [(8, .sl), (10, (.int .i64))] 2 (fun a h => corbellaw9_IntentFrees.l1 k k (a.1) (a.2.1) (a.2.2.1) (a.2.2.2.1) (a.2.2.2.2.1) (a.2.2.2.2.2) h))))
  (cond (Nat.beq p 2091322) (some (.pass [0, 1, 6, 8, 10, 11, 12, 13] (lrun [(0, .sl), (1, (.int .i64)), (6, .ptr), (8, .sl), (10, (.int .i64)), (11, (.int .i64)), (12, (.int .i64)), (13, (.int .i64)), (76, .sl), (77, (.int .i64)), (14, .sl), (78, (.int .i64))] none [(14, .sl)] 4 (fun a h => corbellaw9_IntentFrees.l2 k k (a.1) (a.2.1) (a.2.2.1) (a.2.2.2.1) (a.2.2.2.2.1) (a.2.2.2.2.2.1) (a.2.2.2.2.2.2.1) (a.2.2.2.2.2.2.2.1) (a.2.2.2.2.2.2.2.2.1) (a.2.2.2.2.2.2.2.2.2.1) (a.2.2.2.2.2.2.2.2.2.2.1) (a.2.2.2.2.2.2.2.2.2.2.2) h))))
  (cond (Nat.beq p 267689267) (some (.join [0, 1, 6, 8, 10, 11, 12, 13, 76, 77, 78] none [(14, .sl)]))
  (cond (Nat.beq p 506) (some (.pass [0, 1, 6] (lrun [(0, .sl), (1, (.int .i64)), (6, .ptr), (8, .sl), (9, (.int .i64))] (some [(4, .bool)]) [(8, .sl)] 0 (fun a h => corbellaw9_IntentFrees.l0 k k (a.1) (a.2.1) (a.2.2.1) (a.2.2.2.1) (a.2.2.2.2) h))))
  (none))))))
noncomputable def corbellaw9_IntentFrees.body : Code := (Try.f12.body).getD .skip
noncomputable def corbellaw9_IntentFrees.c506 : Code := cat corbellaw9_IntentFrees.body [1, 1, 1, 1, 1, 0, 1, 0, 0]
noncomputable def corbellaw9_IntentFrees.c2042 : Code := cat corbellaw9_IntentFrees.body [1, 1, 1, 1, 1, 1, 1, 0, 1, 0, 0]
noncomputable def corbellaw9_IntentFrees.c2091322 : Code := cat corbellaw9_IntentFrees.body [1, 1, 1, 1, 1, 1, 1, 0, 1, 0, 0, 1, 0, 0, 1, 1, 1, 0, 1, 0, 0]
noncomputable def corbellaw9_IntentFrees.c4090 : Code := cat corbellaw9_IntentFrees.body [1, 1, 1, 1, 1, 1, 1, 1, 0, 1, 0, 0]
noncomputable def corbellaw9_IntentFrees.c32762 : Code := cat corbellaw9_IntentFrees.body [1, 1, 1, 1, 1, 1, 1, 1, 1, 1, 1, 0, 1, 0, 0]
set_option maxRecDepth 100000 in
theorem corbellaw9_IntentFrees.TS {C : FuncId → Bool} {X : CallF} (hX : XOk C X) (hK43 : KOk X 43) (k : Nat) : TblS Try.prog C X (corbellaw9_IntentFrees.T k) := by
  refine tblOf_sound ?_
  intro e he
  rcases List.mem_cons.1 he with rfl | he
  · exact wr_told (platter_New.told hX k)
  rcases List.mem_cons.1 he with rfl | he
  · exact wr_told (intent_Open.told hX k)
  rcases List.mem_cons.1 he with rfl | he
  · exact knownW_told hK43
  rcases List.mem_cons.1 he with rfl | he
  · exact wr_told (corbellaw9_one.told hX k)
  rcases List.mem_cons.1 he with rfl | he
  · exact wr_told (intent_Ring_Log.told hX k)
  rcases List.mem_cons.1 he with rfl | he
  · exact wr_told (corbelhand_Pick.told hX k)
  rcases List.mem_cons.1 he with rfl | he
  · exact wr_told (intent_Ring_Release.told hX k)
  rcases List.mem_cons.1 he with rfl | he
  · exact wr_told (intent_Ring_Live.told hX k)
  rcases List.mem_cons.1 he with rfl | he
  · exact wr_told (intent_Same.told hX k)
  exact absurd he List.not_mem_nil
set_option maxRecDepth 100000 in
theorem corbellaw9_IntentFrees.l2_pass {C : FuncId → Bool} {X : CallF} (hX : XOk C X) (hK43 : KOk X 43) (k n : Nat) : PassS Try.prog C X 154 (.loop corbellaw9_IntentFrees.c2091322) (lrun [(0, .sl), (1, (.int .i64)), (6, .ptr), (8, .sl), (10, (.int .i64)), (11, (.int .i64)), (12, (.int .i64)), (13, (.int .i64)), (76, .sl), (77, (.int .i64)), (14, .sl), (78, (.int .i64))] none [(14, .sl)] 4 (fun a h => corbellaw9_IntentFrees.l2 k n (a.1) (a.2.1) (a.2.2.1) (a.2.2.2.1) (a.2.2.2.2.1) (a.2.2.2.2.2.1) (a.2.2.2.2.2.2.1) (a.2.2.2.2.2.2.2.1) (a.2.2.2.2.2.2.2.2.1) (a.2.2.2.2.2.2.2.2.2.1) (a.2.2.2.2.2.2.2.2.2.2.1) (a.2.2.2.2.2.2.2.2.2.2.2) h)) :=
  loop_pass (ins := [(0, .sl), (1, (.int .i64)), (6, .ptr), (8, .sl), (10, (.int .i64)), (11, (.int .i64)), (12, (.int .i64)), (13, (.int .i64)), (76, .sl), (77, (.int .i64)), (14, .sl), (78, (.int .i64))]) (rets := none) (outs := [(14, .sl)]) (id := 4) (tbl := corbellaw9_IntentFrees.T k) (an := corbellaw9_IntentFrees.an k) (pb := 4182644) (corbellaw9_IntentFrees.TS hX hK43 k) (fun n => (fun a h => corbellaw9_IntentFrees.l2 k n (a.1) (a.2.1) (a.2.2.1) (a.2.2.2.1) (a.2.2.2.2.1) (a.2.2.2.2.2.1) (a.2.2.2.2.2.2.1) (a.2.2.2.2.2.2.2.1) (a.2.2.2.2.2.2.2.2.1) (a.2.2.2.2.2.2.2.2.2.1) (a.2.2.2.2.2.2.2.2.2.2.1) (a.2.2.2.2.2.2.2.2.2.2.2) h)) (fun a h => rfl) (fun n a h => by kernel_rfl)
    (by
      have e : need (corbellaw9_IntentFrees.an k) corbellaw9_IntentFrees.c2091322 4182644 = [] := by kernel_rfl
      rw [e]; intro q hq; cases hq) n
set_option maxRecDepth 100000 in
theorem corbellaw9_IntentFrees.l4_pass {C : FuncId → Bool} {X : CallF} (hX : XOk C X) (hK43 : KOk X 43) (k n : Nat) : PassS Try.prog C X 154 (.loop corbellaw9_IntentFrees.c32762) (lrun [(8, .sl), (19, .sl), (139, (.int .i64)), (140, (.int .i64))] (some [(4, .bool)]) [] 8 (fun a h => corbellaw9_IntentFrees.l4 k n (a.1) (a.2.1) (a.2.2.1) (a.2.2.2) h)) :=
  loop_pass (ins := [(8, .sl), (19, .sl), (139, (.int .i64)), (140, (.int .i64))]) (rets := (some [(4, .bool)])) (outs := []) (id := 8) (tbl := corbellaw9_IntentFrees.T k) (an := corbellaw9_IntentFrees.an k) (pb := 65524) (corbellaw9_IntentFrees.TS hX hK43 k) (fun n => (fun a h => corbellaw9_IntentFrees.l4 k n (a.1) (a.2.1) (a.2.2.1) (a.2.2.2) h)) (fun a h => rfl) (fun n a h => by kernel_rfl)
    (by
      have e : need (corbellaw9_IntentFrees.an k) corbellaw9_IntentFrees.c32762 65524 = [] := by kernel_rfl
      rw [e]; intro q hq; cases hq) n
set_option maxRecDepth 100000 in
theorem corbellaw9_IntentFrees.l3_pass {C : FuncId → Bool} {X : CallF} (hX : XOk C X) (hK43 : KOk X 43) (k n : Nat) : PassS Try.prog C X 154 (.loop corbellaw9_IntentFrees.c4090) (lrun [(1, (.int .i64)), (6, .ptr), (10, (.int .i64)), (8, .sl), (17, (.int .i64))] (some [(4, .bool)]) [(8, .sl)] 6 (fun a h => corbellaw9_IntentFrees.l3 k n (a.1) (a.2.1) (a.2.2.1) (a.2.2.2.1) (a.2.2.2.2) h)) :=
  loop_pass (ins := [(1, (.int .i64)), (6, .ptr), (10, (.int .i64)), (8, .sl), (17, (.int .i64))]) (rets := (some [(4, .bool)])) (outs := [(8, .sl)]) (id := 6) (tbl := corbellaw9_IntentFrees.T k) (an := corbellaw9_IntentFrees.an k) (pb := 8180) (corbellaw9_IntentFrees.TS hX hK43 k) (fun n => (fun a h => corbellaw9_IntentFrees.l3 k n (a.1) (a.2.1) (a.2.2.1) (a.2.2.2.1) (a.2.2.2.2) h)) (fun a h => rfl) (fun n a h => by kernel_rfl)
    (by
      have e : need (corbellaw9_IntentFrees.an k) corbellaw9_IntentFrees.c4090 8180 = [] := by kernel_rfl
      rw [e]; intro q hq; cases hq) n
set_option maxRecDepth 100000 in
theorem corbellaw9_IntentFrees.l1_pass {C : FuncId → Bool} {X : CallF} (hX : XOk C X) (hK43 : KOk X 43) (k n : Nat) : PassS Try.prog C X 154 (.loop corbellaw9_IntentFrees.c2042) (lrun [(0, .sl), (1, (.int .i64)), (6, .ptr), (8, .sl), (10, (.int .i64)), (11, (.int .i64))] (some [(4, .bool)]) [(8, .sl), (10, (.int .i64))] 2 (fun a h => corbellaw9_IntentFrees.l1 k n (a.1) (a.2.1) (a.2.2.1) (a.2.2.2.1) (a.2.2.2.2.1) (a.2.2.2.2.2) h)) :=
  loop_pass (ins := [(0, .sl), (1, (.int .i64)), (6, .ptr), (8, .sl), (10, (.int .i64)), (11, (.int .i64))]) (rets := (some [(4, .bool)])) (outs := [(8, .sl), (10, (.int .i64))]) (id := 2) (tbl := corbellaw9_IntentFrees.T k) (an := corbellaw9_IntentFrees.an k) (pb := 4084) (corbellaw9_IntentFrees.TS hX hK43 k) (fun n => (fun a h => corbellaw9_IntentFrees.l1 k n (a.1) (a.2.1) (a.2.2.1) (a.2.2.2.1) (a.2.2.2.2.1) (a.2.2.2.2.2) h)) (fun a h => rfl) (fun n a h => by kernel_rfl)
    (by
      have e : need (corbellaw9_IntentFrees.an k) corbellaw9_IntentFrees.c2042 4084 = [(Code.loop corbellaw9_IntentFrees.c2091322, lrun [(0, .sl), (1, (.int .i64)), (6, .ptr), (8, .sl), (10, (.int .i64)), (11, (.int .i64)), (12, (.int .i64)), (13, (.int .i64)), (76, .sl), (77, (.int .i64)), (14, .sl), (78, (.int .i64))] none [(14, .sl)] 4 (fun a h => corbellaw9_IntentFrees.l2 k k (a.1) (a.2.1) (a.2.2.1) (a.2.2.2.1) (a.2.2.2.2.1) (a.2.2.2.2.2.1) (a.2.2.2.2.2.2.1) (a.2.2.2.2.2.2.2.1) (a.2.2.2.2.2.2.2.2.1) (a.2.2.2.2.2.2.2.2.2.1) (a.2.2.2.2.2.2.2.2.2.2.1) (a.2.2.2.2.2.2.2.2.2.2.2) h))] := by kernel_rfl
      rw [e]; intro q hq
      rcases List.mem_cons.1 hq with rfl | hq
      · exact corbellaw9_IntentFrees.l2_pass hX hK43 k k
      cases hq) n
set_option maxRecDepth 100000 in
theorem corbellaw9_IntentFrees.l0_pass {C : FuncId → Bool} {X : CallF} (hX : XOk C X) (hK43 : KOk X 43) (k n : Nat) : PassS Try.prog C X 154 (.loop corbellaw9_IntentFrees.c506) (lrun [(0, .sl), (1, (.int .i64)), (6, .ptr), (8, .sl), (9, (.int .i64))] (some [(4, .bool)]) [(8, .sl)] 0 (fun a h => corbellaw9_IntentFrees.l0 k n (a.1) (a.2.1) (a.2.2.1) (a.2.2.2.1) (a.2.2.2.2) h)) :=
  loop_pass (ins := [(0, .sl), (1, (.int .i64)), (6, .ptr), (8, .sl), (9, (.int .i64))]) (rets := (some [(4, .bool)])) (outs := [(8, .sl)]) (id := 0) (tbl := corbellaw9_IntentFrees.T k) (an := corbellaw9_IntentFrees.an k) (pb := 1012) (corbellaw9_IntentFrees.TS hX hK43 k) (fun n => (fun a h => corbellaw9_IntentFrees.l0 k n (a.1) (a.2.1) (a.2.2.1) (a.2.2.2.1) (a.2.2.2.2) h)) (fun a h => rfl) (fun n a h => by kernel_rfl)
    (by
      have e : need (corbellaw9_IntentFrees.an k) corbellaw9_IntentFrees.c506 1012 = [] := by kernel_rfl
      rw [e]; intro q hq; cases hq) n
set_option maxRecDepth 100000 in
theorem corbellaw9_IntentFrees.eq (k : Nat) (a : RT [.sl, (.int .i64)]) (h : H) : (fun a h => corbellaw9_IntentFrees.f k (a.1) (a.2) h) a h = kfun Try.prog (corbellaw9_IntentFrees.T k) (corbellaw9_IntentFrees.an k) (RT [.bool] × H) Try.f12 (encL [.sl, (.int .i64)] a) h (fun vs h' => (decL [.bool] vs).bind fun x => some (x, h')) := by kernel_rfl
set_option maxRecDepth 100000 in
theorem corbellaw9_IntentFrees.told {C : FuncId → Bool} {X : CallF} (hX : XOk C X) (hK43 : KOk X 43) (k : Nat) : Den.Told Try.prog C X 12 [.sl, (.int .i64)] [.bool] (fun a h => corbellaw9_IntentFrees.f k (a.1) (a.2) h) :=
  told_of fun a h q e => fn_of (c := corbellaw9_IntentFrees.body) (corbellaw9_IntentFrees.TS hX hK43 k) Try.func12 (by kernel_rfl) (hX.no 12 _ h (by decide))
    (by
      have e : need (corbellaw9_IntentFrees.an k) corbellaw9_IntentFrees.body 1 = [(Code.loop corbellaw9_IntentFrees.c506, lrun [(0, .sl), (1, (.int .i64)), (6, .ptr), (8, .sl), (9, (.int .i64))] (some [(4, .bool)]) [(8, .sl)] 0 (fun a h => corbellaw9_IntentFrees.l0 k k (a.1) (a.2.1) (a.2.2.1) (a.2.2.2.1) (a.2.2.2.2) h)), (Code.loop corbellaw9_IntentFrees.c2042, lrun [(0, .sl), (1, (.int .i64)), (6, .ptr), (8, .sl), (10, (.int .i64)), (11, (.int .i64))] (some [(4, .bool)]) [(8, .sl), (10, (.int .i64))] 2 (fun a h => corbellaw9_IntentFrees.l1 k k (a.1) (a.2.1) (a.2.2.1) (a.2.2.2.1) (a.2.2.2.2.1) (a.2.2.2.2.2) h)), (Code.loop corbellaw9_IntentFrees.c4090, lrun [(1, (.int .i64)), (6, .ptr), (10, (.int .i64)), (8, .sl), (17, (.int .i64))] (some [(4, .bool)]) [(8, .sl)] 6 (fun a h => corbellaw9_IntentFrees.l3 k k (a.1) (a.2.1) (a.2.2.1) (a.2.2.2.1) (a.2.2.2.2) h)), (Code.loop corbellaw9_IntentFrees.c32762, lrun [(8, .sl), (19, .sl), (139, (.int .i64)), (140, (.int .i64))] (some [(4, .bool)]) [] 8 (fun a h => corbellaw9_IntentFrees.l4 k k (a.1) (a.2.1) (a.2.2.1) (a.2.2.2) h))] := by kernel_rfl
      rw [e]; intro q hq
      rcases List.mem_cons.1 hq with rfl | hq
      · exact corbellaw9_IntentFrees.l0_pass hX hK43 k k
      rcases List.mem_cons.1 hq with rfl | hq
      · exact corbellaw9_IntentFrees.l1_pass hX hK43 k k
      rcases List.mem_cons.1 hq with rfl | hq
      · exact corbellaw9_IntentFrees.l3_pass hX hK43 k k
      rcases List.mem_cons.1 hq with rfl | hq
      · exact corbellaw9_IntentFrees.l4_pass hX hK43 k k
      cases hq)
    ((corbellaw9_IntentFrees.eq k a h).symm.trans e)
end Go.Proofs.Ytbegaeohggkblaa.Fwd
