/- Forward runs of functions of the program, printed by a program of this session: each function on plain values and memory, and that the code comes to it. No condition. -/
import Derived.Test.YtnjeafdbifcfhaaDenZ
import Derived.KernelRfl
import Derived.Test.YtnjeafdbifcfhaaFK5
namespace Go.Proofs.Ytnjeafdbifcfhaa.Fwd
open Go Den
set_option linter.unusedVariables false
/-! ### corbel/corbelhand.Pick -/
noncomputable def corbelhand_Pick.f (k : Nat) (a0 : Int) (a1 : Int) (h : H) : Option ((Int) × H) :=
  (asI .i64 (intA .rem .i64 a0 a1)).bind fun n1 =>
    (cond (decide (n1 < (0 : Int)))
      (some (wrapA .i64 (n1 + a1), h))
      (some (n1, h)) : Option ((Int) × H)).bind fun j2 =>
    some (j2.1, j2.2)
noncomputable def corbelhand_Pick.T (k : Nat) : Tbl := tblOf []
noncomputable def corbelhand_Pick.an (k : Nat) (p : Nat) : Option Ann := cond (Nat.beq p 29) (some (.join [] none [(0, (.int .i64))]))
  (none)
noncomputable def corbelhand_Pick.body : Code := (Try.f36.body).getD .skip
set_option maxRecDepth 100000 in
theorem corbelhand_Pick.TS {C : FuncId → Bool} {X : CallF} (hX : XOk C X) (k : Nat) : TblS Try.prog C X (corbelhand_Pick.T k) := by
  refine tblOf_sound ?_
  intro e he
  exact absurd he List.not_mem_nil
set_option maxRecDepth 100000 in
theorem corbelhand_Pick.eq (k : Nat) (a : RT [(.int .i64), (.int .i64)]) (h : H) : (fun a h => corbelhand_Pick.f k (a.1) (a.2) h) a h = kfun Try.prog (corbelhand_Pick.T k) (corbelhand_Pick.an k) (RT [(.int .i64)] × H) Try.f36 (encL [(.int .i64), (.int .i64)] a) h (fun vs h' => (decL [(.int .i64)] vs).bind fun x => some (x, h')) := by kernel_rfl
set_option maxRecDepth 100000 in
theorem corbelhand_Pick.told {C : FuncId → Bool} {X : CallF} (hX : XOk C X) (k : Nat) : Den.Told Try.prog C X 36 [(.int .i64), (.int .i64)] [(.int .i64)] (fun a h => corbelhand_Pick.f k (a.1) (a.2) h) :=
  told_of fun a h q e => fn_of (c := corbelhand_Pick.body) (corbelhand_Pick.TS hX k) Try.func36 (by kernel_rfl) (hX.no 36 _ h (by decide))
    (by
      have e : need (corbelhand_Pick.an k) corbelhand_Pick.body 1 = [] := by kernel_rfl
      rw [e]; intro q hq; cases hq)
    ((corbelhand_Pick.eq k a h).symm.trans e)
/-! ### corbel/corbelhand.Bytes -/
noncomputable def corbelhand_Bytes.l0 (k : Nat) (n : Nat) : Int → Sl → Int → Int → H → Option ((Unit) × H) :=
  Nat.rec (motive := fun _ => Int → Sl → Int → Int → H → Option ((Unit) × H)) (fun _ _ _ _ _ => none) (fun _ ih x3 x4 x5 x6 h7 => cond (decide (x6 < x3))
      ((asP (ixs 1 x4.a x4.n x6)).bind fun p8 =>
    (stv 1 h7 p8 [(Value.int .u8 (wrapA .u8 ((wrapA .u64 ((wrapA .u64 (x5 * (6364136223846793005 : Int))) + (1442695040888963407 : Int))).fdiv (2 ^ 56))))]).bind fun q9 =>
    ih x3 x4 (wrapA .u64 ((wrapA .u64 (x5 * (6364136223846793005 : Int))) + (1442695040888963407 : Int))) (wrapA .i64 (x6 + (1 : Int))) q9.2)
      (some ((), h7))) n
theorem corbelhand_Bytes.l0_zero (k : Nat) (x3 : Int) (x4 : Sl) (x5 : Int) (x6 : Int) (h7 : H) : corbelhand_Bytes.l0 k 0 x3 x4 x5 x6 h7 = none := rfl
theorem corbelhand_Bytes.l0_succ (k n : Nat) (x3 : Int) (x4 : Sl) (x5 : Int) (x6 : Int) (h7 : H) : corbelhand_Bytes.l0 k (n + 1) x3 x4 x5 x6 h7 = (cond (decide (x6 < x3))
      ((asP (ixs 1 x4.a x4.n x6)).bind fun p8 =>
    (stv 1 h7 p8 [(Value.int .u8 (wrapA .u8 ((wrapA .u64 ((wrapA .u64 (x5 * (6364136223846793005 : Int))) + (1442695040888963407 : Int))).fdiv (2 ^ 56))))]).bind fun q9 =>
    corbelhand_Bytes.l0 k n x3 x4 (wrapA .u64 ((wrapA .u64 (x5 * (6364136223846793005 : Int))) + (1442695040888963407 : Int))) (wrapA .i64 (x6 + (1 : Int))) q9.2)
      (some ((), h7))) := rfl
noncomputable def corbelhand_Bytes.f (k : Nat) (a0 : Int) (a1 : Int) (h : H) : Option ((Sl) × H) :=
  (asS2 (mkz 5 1 1 [(Value.int .u8 (0 : Int))] a1 a1 h)).bind fun q1 =>
    (corbelhand_Pick.f k a0 (7 : Int) q1.2).bind fun q2 =>
    cond (q2.1 == (6 : Int))
      (some (q1.1, q2.2))
      ((corbelhand_Bytes.l0 k k a1 q1.1 (wrapA .u64 ((wrapA .u64 ((wrapA .u64 a0) * (2654435761 : Int))) + (12345 : Int))) (0 : Int) q2.2).bind fun w10 =>
    some (q1.1, w10.2))
noncomputable def corbelhand_Bytes.T (k : Nat) : Tbl := tblOf [⟨36, anyArgs, wr [(.int .i64), (.int .i64)] [(.int .i64)] (fun a h => corbelhand_Pick.f k (a.1) (a.2) h)⟩]
noncomputable def corbelhand_Bytes.an (k : Nat) (p : Nat) : Option Ann := cond (Nat.beq p 250) (some (.pass [5] (lrun [(1, (.int .i64)), (5, .sl), (6, (.int .u64)), (7, (.int .i64))] none [] 0 (fun a h => corbelhand_Bytes.l0 k k (a.1) (a.2.1) (a.2.2.1) (a.2.2.2) h))))
  (none)
noncomputable def corbelhand_Bytes.body : Code := (Try.f44.body).getD .skip
noncomputable def corbelhand_Bytes.c250 : Code := cat corbelhand_Bytes.body [1, 1, 1, 1, 0, 1, 0, 0]
set_option maxRecDepth 100000 in
theorem corbelhand_Bytes.TS {C : FuncId → Bool} {X : CallF} (hX : XOk C X) (k : Nat) : TblS Try.prog C X (corbelhand_Bytes.T k) := by
  refine tblOf_sound ?_
  intro e he
  rcases List.mem_cons.1 he with rfl | he
  · exact wr_told (corbelhand_Pick.told hX k)
  exact absurd he List.not_mem_nil
set_option maxRecDepth 100000 in
theorem corbelhand_Bytes.l0_pass {C : FuncId → Bool} {X : CallF} (hX : XOk C X) (k n : Nat) : PassS Try.prog C X 33 (.loop corbelhand_Bytes.c250) (lrun [(1, (.int .i64)), (5, .sl), (6, (.int .u64)), (7, (.int .i64))] none [] 0 (fun a h => corbelhand_Bytes.l0 k n (a.1) (a.2.1) (a.2.2.1) (a.2.2.2) h)) :=
  loop_pass (ins := [(1, (.int .i64)), (5, .sl), (6, (.int .u64)), (7, (.int .i64))]) (rets := none) (outs := []) (id := 0) (tbl := corbelhand_Bytes.T k) (an := corbelhand_Bytes.an k) (pb := 500) (corbelhand_Bytes.TS hX k) (fun n => (fun a h => corbelhand_Bytes.l0 k n (a.1) (a.2.1) (a.2.2.1) (a.2.2.2) h)) (fun a h => rfl) (fun n a h => by kernel_rfl)
    (by
      have e : need (corbelhand_Bytes.an k) corbelhand_Bytes.c250 500 = [] := by kernel_rfl
      rw [e]; intro q hq; cases hq) n
set_option maxRecDepth 100000 in
theorem corbelhand_Bytes.eq (k : Nat) (a : RT [(.int .i64), (.int .i64)]) (h : H) : (fun a h => corbelhand_Bytes.f k (a.1) (a.2) h) a h = kfun Try.prog (corbelhand_Bytes.T k) (corbelhand_Bytes.an k) (RT [.sl] × H) Try.f44 (encL [(.int .i64), (.int .i64)] a) h (fun vs h' => (decL [.sl] vs).bind fun x => some (x, h')) := by kernel_rfl
set_option maxRecDepth 100000 in
theorem corbelhand_Bytes.told {C : FuncId → Bool} {X : CallF} (hX : XOk C X) (k : Nat) : Den.Told Try.prog C X 44 [(.int .i64), (.int .i64)] [.sl] (fun a h => corbelhand_Bytes.f k (a.1) (a.2) h) :=
  told_of fun a h q e => fn_of (c := corbelhand_Bytes.body) (corbelhand_Bytes.TS hX k) Try.func44 (by kernel_rfl) (hX.no 44 _ h (by decide))
    (by
      have e : need (corbelhand_Bytes.an k) corbelhand_Bytes.body 1 = [(Code.loop corbelhand_Bytes.c250, lrun [(1, (.int .i64)), (5, .sl), (6, (.int .u64)), (7, (.int .i64))] none [] 0 (fun a h => corbelhand_Bytes.l0 k k (a.1) (a.2.1) (a.2.2.1) (a.2.2.2) h))] := by kernel_rfl
      rw [e]; intro q hq
      rcases List.mem_cons.1 hq with rfl | hq
      · exact corbelhand_Bytes.l0_pass hX k k
      cases hq)
    ((corbelhand_Bytes.eq k a h).symm.trans e)
/-! ### (*corbel/coder.Coder).Delta -/
noncomputable def coder_Coder_Delta.l1 (k : Nat) (n : Nat) : (Option Addr) → Int → Sl → Sl → Sl → Sl → Sl → Sl → Int → Int → Int → Int → H → Option ((Unit) × H) :=
  Nat.rec (motive := fun _ => (Option Addr) → Int → Sl → Sl → Sl → Sl → Sl → Sl → Int → Int → Int → Int → H → Option ((Unit) × H)) (fun _ _ _ _ _ _ _ _ _ _ _ _ _ => none) (fun _ ih x19 x20 x21 x22 x23 x24 x25 x26 x27 x28 x29 x30 h31 => cond (decide (x30 < x29))
      ((asP (nilA (Value.pointer x19))).bind fun p32 =>
    (asP (fadd 0 p32)).bind fun p33 =>
    (asP (ldc h31 p33)).bind fun p34 =>
    (asP (ixs 1 x24.a x24.n x20)).bind fun p35 =>
    (asI .u8 (ldc h31 p35)).bind fun n36 =>
    (asP (nilA (Value.pointer x19))).bind fun p37 =>
    (asP (fadd 0 p37)).bind fun p38 =>
    (asP (ldc h31 p38)).bind fun p39 =>
    (asP (ixs 1 x21.a x21.n x30)).bind fun p40 =>
    (asI .u8 (ldc h31 p40)).bind fun n41 =>
    (asP (ixs 1 x22.a x22.n x30)).bind fun p42 =>
    (asI .u8 (ldc h31 p42)).bind fun n43 =>
    (field_Field_Add.f k p39 n41 n43 h31).bind fun q44 =>
    (field_Field_Mul.f k p34 n36 q44.1 q44.2).bind fun q45 =>
    (asP (ixs 1 x25.a x25.n x30)).bind fun p46 =>
    (stv 1 q45.2 p46 [(Value.int .u8 q45.1)]).bind fun q47 =>
    cond (same1 h31 q44.2 (some (Value.pointer p33)) && (same1 h31 q44.2 (some (Value.pointer p35)) && (true))) (ih x19 x20 x21 x22 x23 x24 x25 x26 x27 x28 x29 (wrapA .i64 (x30 + (1 : Int))) q47.2) none)
      (some ((), h31))) n
theorem coder_Coder_Delta.l1_zero (k : Nat) (x19 : Option Addr) (x20 : Int) (x21 : Sl) (x22 : Sl) (x23 : Sl) (x24 : Sl) (x25 : Sl) (x26 : Sl) (x27 : Int) (x28 : Int) (x29 : Int) (x30 : Int) (h31 : H) : coder_Coder_Delta.l1 k 0 x19 x20 x21 x22 x23 x24 x25 x26 x27 x28 x29 x30 h31 = none := rfl
theorem coder_Coder_Delta.l1_succ (k n : Nat) (x19 : Option Addr) (x20 : Int) (x21 : Sl) (x22 : Sl) (x23 : Sl) (x24 : Sl) (x25 : Sl) (x26 : Sl) (x27 : Int) (x28 : Int) (x29 : Int) (x30 : Int) (h31 : H) : coder_Coder_Delta.l1 k (n + 1) x19 x20 x21 x22 x23 x24 x25 x26 x27 x28 x29 x30 h31 = (cond (decide (x30 < x29))
      ((asP (nilA (Value.pointer x19))).bind fun p32 =>
    (asP (fadd 0 p32)).bind fun p33 =>
    (asP (ldc h31 p33)).bind fun p34 =>
    (asP (ixs 1 x24.a x24.n x20)).bind fun p35 =>
    (asI .u8 (ldc h31 p35)).bind fun n36 =>
    (asP (nilA (Value.pointer x19))).bind fun p37 =>
    (asP (fadd 0 p37)).bind fun p38 =>
    (asP (ldc h31 p38)).bind fun p39 =>
    (asP (ixs 1 x21.a x21.n x30)).bind fun p40 =>
    (asI .u8 (ldc h31 p40)).bind fun n41 =>
    (asP (ixs 1 x22.a x22.n x30)).bind fun p42 =>
    (asI .u8 (ldc h31 p42)).bind fun n43 =>
    (field_Field_Add.f k p39 n41 n43 h31).bind fun q44 =>
    (field_Field_Mul.f k p34 n36 q44.1 q44.2).bind fun q45 =>
    (asP (ixs 1 x25.a x25.n x30)).bind fun p46 =>
    (stv 1 q45.2 p46 [(Value.int .u8 q45.1)]).bind fun q47 =>
    cond (same1 h31 q44.2 (some (Value.pointer p33)) && (same1 h31 q44.2 (some (Value.pointer p35)) && (true))) (coder_Coder_Delta.l1 k n x19 x20 x21 x22 x23 x24 x25 x26 x27 x28 x29 (wrapA .i64 (x30 + (1 : Int))) q47.2) none)
      (some ((), h31))) := rfl
noncomputable def coder_Coder_Delta.l0 (k : Nat) (n : Nat) : (Option Addr) → Int → Sl → Sl → Sl → Int → Sl → Int → H → Option ((Sl) × H) :=
  Nat.rec (motive := fun _ => (Option Addr) → Int → Sl → Sl → Sl → Int → Sl → Int → H → Option ((Sl) × H)) (fun _ _ _ _ _ _ _ _ _ => none) (fun _ ih x8 x9 x10 x11 x12 x13 x14 x15 h16 => cond (decide (x15 < x13))
      ((asP (ixs 1 x12.a x12.n x15)).bind fun p17 =>
    (asS (ldc h16 p17)).bind fun s18 =>
    (coder_Coder_Delta.l1 k k x8 x9 x10 x11 x14 s18 (⟨(some ⟨h16.next, 0, none⟩), 32, 32⟩ : Sl) x12 x13 x15 (Int.ofNat 32) (0 : Int) (newZ h16 5 1 [(Value.int .u8 (0 : Int))] 32)).bind fun w48 =>
    (asS2 (apv 40 1 24 (Value.slice x14.a x14.n x14.c) (Value.slice (some ⟨w48.2.next, 0, none⟩) 1 1) (newR w48.2 40 1 [(Value.slice (some ⟨h16.next, 0, none⟩) 32 32)]))).bind fun q49 =>
    ih x8 x9 x10 x11 x12 x13 q49.1 (wrapA .i64 (x15 + (1 : Int))) q49.2)
      (some (x14, h16))) n
theorem coder_Coder_Delta.l0_zero (k : Nat) (x8 : Option Addr) (x9 : Int) (x10 : Sl) (x11 : Sl) (x12 : Sl) (x13 : Int) (x14 : Sl) (x15 : Int) (h16 : H) : coder_Coder_Delta.l0 k 0 x8 x9 x10 x11 x12 x13 x14 x15 h16 = none := rfl
theorem coder_Coder_Delta.l0_succ (k n : Nat) (x8 : Option Addr) (x9 : Int) (x10 : Sl) (x11 : Sl) (x12 : Sl) (x13 : Int) (x14 : Sl) (x15 : Int) (h16 : H) : coder_Coder_Delta.l0 k (n + 1) x8 x9 x10 x11 x12 x13 x14 x15 h16 = (cond (decide (x15 < x13))
      ((asP (ixs 1 x12.a x12.n x15)).bind fun p17 =>
    (asS (ldc h16 p17)).bind fun s18 =>
    (coder_Coder_Delta.l1 k k x8 x9 x10 x11 x14 s18 (⟨(some ⟨h16.next, 0, none⟩), 32, 32⟩ : Sl) x12 x13 x15 (Int.ofNat 32) (0 : Int) (newZ h16 5 1 [(Value.int .u8 (0 : Int))] 32)).bind fun w48 =>
    (asS2 (apv 40 1 24 (Value.slice x14.a x14.n x14.c) (Value.slice (some ⟨w48.2.next, 0, none⟩) 1 1) (newR w48.2 40 1 [(Value.slice (some ⟨h16.next, 0, none⟩) 32 32)]))).bind fun q49 =>
    coder_Coder_Delta.l0 k n x8 x9 x10 x11 x12 x13 q49.1 (wrapA .i64 (x15 + (1 : Int))) q49.2)
      (some (x14, h16))) := rfl
noncomputable def coder_Coder_Delta.f (k : Nat) (a0 : Option Addr) (a1 : Int) (a2 : Sl) (a3 : Sl) (h : H) : Option ((Sl × Int) × H) :=
  (cond (decide (a1 < (0 : Int))) (some (true, h))
      (some (decide (a1 ≥ (4 : Int)), h))).bind fun g1 =>
    (cond g1.1 (some (true, g1.2))
      (some ((Int.ofNat a2.n) != (32 : Int), g1.2))).bind fun g2 =>
    (cond g2.1 (some (true, g2.2))
      (some ((Int.ofNat a3.n) != (32 : Int), g2.2))).bind fun g3 =>
    cond g3.1
      (some (((⟨none, 0, 0⟩ : Sl), (1 : Int)), g3.2))
      ((asP (nilA (Value.pointer a0))).bind fun p4 =>
    (asP (fadd 1 p4)).bind fun p5 =>
    (asS (ldc g3.2 p5)).bind fun s6 =>
    (asS (subs 1 (Value.slice s6.a s6.n s6.c) (some (4 : Int)) none)).bind fun s7 =>
    (coder_Coder_Delta.l0 k k a0 a1 a2 a3 s7 (Int.ofNat s7.n) (⟨none, 0, 0⟩ : Sl) (0 : Int) g3.2).bind fun w50 =>
    some ((w50.1, (0 : Int)), w50.2))
noncomputable def coder_Coder_Delta.T (k : Nat) : Tbl := tblOf [⟨28, anyArgs, wr [.ptr, (.int .u8), (.int .u8)] [(.int .u8)] (fun a h => field_Field_Add.f k (a.1) (a.2.1) (a.2.2) h)⟩,
  ⟨21, anyArgs, wr [.ptr, (.int .u8), (.int .u8)] [(.int .u8)] (fun a h => field_Field_Mul.f k (a.1) (a.2.1) (a.2.2) h)⟩]
noncomputable def coder_Coder_Delta.an (k : Nat) (p : Nat) : Option Ann := cond (Nat.beq p 122) (some (.pass [] (lrun [(0, .ptr), (1, (.int .i64)), (2, .sl), (3, .sl), (35, .sl), (36, (.int .i64)), (10, .sl), (37, (.int .i64))] none [(10, .sl)] 0 (fun a h => coder_Coder_Delta.l0 k k (a.1) (a.2.1) (a.2.2.1) (a.2.2.2.1) (a.2.2.2.2.1) (a.2.2.2.2.2.1) (a.2.2.2.2.2.2.1) (a.2.2.2.2.2.2.2) h))))
  (cond (Nat.beq p 125338) (some (.pass [0, 1, 2, 3, 10, 13, 35, 36, 37] (lrun [(0, .ptr), (1, (.int .i64)), (2, .sl), (3, .sl), (10, .sl), (12, .sl), (13, .sl), (35, .sl), (36, (.int .i64)), (37, (.int .i64)), (43, (.int .i64)), (44, (.int .i64))] none [] 2 (fun a h => coder_Coder_Delta.l1 k k (a.1) (a.2.1) (a.2.2.1) (a.2.2.2.1) (a.2.2.2.2.1) (a.2.2.2.2.2.1) (a.2.2.2.2.2.2.1) (a.2.2.2.2.2.2.2.1) (a.2.2.2.2.2.2.2.2.1) (a.2.2.2.2.2.2.2.2.2.1) (a.2.2.2.2.2.2.2.2.2.2.1) (a.2.2.2.2.2.2.2.2.2.2.2) h))))
  (none))
noncomputable def coder_Coder_Delta.body : Code := (Try.f46.body).getD .skip
noncomputable def coder_Coder_Delta.c122 : Code := cat coder_Coder_Delta.body [1, 1, 1, 0, 1, 0, 0]
noncomputable def coder_Coder_Delta.c125338 : Code := cat coder_Coder_Delta.body [1, 1, 1, 0, 1, 0, 0, 1, 1, 0, 0, 1, 1, 0, 1, 0, 0]
set_option maxRecDepth 100000 in
theorem coder_Coder_Delta.TS {C : FuncId → Bool} {X : CallF} (hX : XOk C X) (k : Nat) : TblS Try.prog C X (coder_Coder_Delta.T k) := by
  refine tblOf_sound ?_
  intro e he
  rcases List.mem_cons.1 he with rfl | he
  · exact wr_told (field_Field_Add.told hX k)
  rcases List.mem_cons.1 he with rfl | he
  · exact wr_told (field_Field_Mul.told hX k)
  exact absurd he List.not_mem_nil
set_option maxRecDepth 100000 in
theorem coder_Coder_Delta.l1_pass {C : FuncId → Bool} {X : CallF} (hX : XOk C X) (k n : Nat) : PassS Try.prog C X 79 (.loop coder_Coder_Delta.c125338) (lrun [(0, .ptr), (1, (.int .i64)), (2, .sl), (3, .sl), (10, .sl), (12, .sl), (13, .sl), (35, .sl), (36, (.int .i64)), (37, (.int .i64)), (43, (.int .i64)), (44, (.int .i64))] none [] 2 (fun a h => coder_Coder_Delta.l1 k n (a.1) (a.2.1) (a.2.2.1) (a.2.2.2.1) (a.2.2.2.2.1) (a.2.2.2.2.2.1) (a.2.2.2.2.2.2.1) (a.2.2.2.2.2.2.2.1) (a.2.2.2.2.2.2.2.2.1) (a.2.2.2.2.2.2.2.2.2.1) (a.2.2.2.2.2.2.2.2.2.2.1) (a.2.2.2.2.2.2.2.2.2.2.2) h)) :=
  loop_pass (ins := [(0, .ptr), (1, (.int .i64)), (2, .sl), (3, .sl), (10, .sl), (12, .sl), (13, .sl), (35, .sl), (36, (.int .i64)), (37, (.int .i64)), (43, (.int .i64)), (44, (.int .i64))]) (rets := none) (outs := []) (id := 2) (tbl := coder_Coder_Delta.T k) (an := coder_Coder_Delta.an k) (pb := 250676) (coder_Coder_Delta.TS hX k) (fun n => (fun a h => coder_Coder_Delta.l1 k n (a.1) (a.2.1) (a.2.2.1) (a.2.2.2.1) (a.2.2.2.2.1) (a.2.2.2.2.2.1) (a.2.2.2.2.2.2.1) (a.2.2.2.2.2.2.2.1) (a.2.2.2.2.2.2.2.2.1) (a.2.2.2.2.2.2.2.2.2.1) (a.2.2.2.2.2.2.2.2.2.2.1) (a.2.2.2.2.2.2.2.2.2.2.2) h)) (fun a h => rfl) (fun n a h => by kernel_rfl)
    (by
      have e : need (coder_Coder_Delta.an k) coder_Coder_Delta.c125338 250676 = [] := by kernel_rfl
      rw [e]; intro q hq; cases hq) n
set_option maxRecDepth 100000 in
theorem coder_Coder_Delta.l0_pass {C : FuncId → Bool} {X : CallF} (hX : XOk C X) (k n : Nat) : PassS Try.prog C X 79 (.loop coder_Coder_Delta.c122) (lrun [(0, .ptr), (1, (.int .i64)), (2, .sl), (3, .sl), (35, .sl), (36, (.int .i64)), (10, .sl), (37, (.int .i64))] none [(10, .sl)] 0 (fun a h => coder_Coder_Delta.l0 k n (a.1) (a.2.1) (a.2.2.1) (a.2.2.2.1) (a.2.2.2.2.1) (a.2.2.2.2.2.1) (a.2.2.2.2.2.2.1) (a.2.2.2.2.2.2.2) h)) :=
  loop_pass (ins := [(0, .ptr), (1, (.int .i64)), (2, .sl), (3, .sl), (35, .sl), (36, (.int .i64)), (10, .sl), (37, (.int .i64))]) (rets := none) (outs := [(10, .sl)]) (id := 0) (tbl := coder_Coder_Delta.T k) (an := coder_Coder_Delta.an k) (pb := 244) (coder_Coder_Delta.TS hX k) (fun n => (fun a h => coder_Coder_Delta.l0 k n (a.1) (a.2.1) (a.2.2.1) (a.2.2.2.1) (a.2.2.2.2.1) (a.2.2.2.2.2.1) (a.2.2.2.2.2.2.1) (a.2.2.2.2.2.2.2) h)) (fun a h => rfl) (fun n a h => by kernel_rfl)
    (by
      have e : need (coder_Coder_Delta.an k) coder_Coder_Delta.c122 244 = [(Code.loop coder_Coder_Delta.c125338, lrun [(0, .ptr), (1, (.int .i64)), (2, .sl), (3, .sl), (10, .sl), (12, .sl), (13, .sl), (35, .sl), (36, (.int .i64)), (37, (.int .i64)), (43, (.int .i64)), (44, (.int .i64))] none [] 2 (fun a h => coder_Coder_Delta.l1 k k (a.1) (a.2.1) (a.2.2.1) (a.2.2.2.1) (a.2.2.2.2.1) (a.2.2.2.2.2.1) (a.2.2.2.2.2.2.1) (a.2.2.2.2.2.2.2.1) (a.2.2.2.2.2.2.2.2.1) (a.2.2.2.2.2.2.2.2.2.1) (a.2.2.2.2.2.2.2.2.2.2.1) (a.2.2.2.2.2.2.2.2.2.2.2) h))] := by kernel_rfl
      rw [e]; intro q hq
      rcases List.mem_cons.1 hq with rfl | hq
      · exact coder_Coder_Delta.l1_pass hX k k
      cases hq) n
set_option maxRecDepth 100000 in
theorem coder_Coder_Delta.eq (k : Nat) (a : RT [.ptr, (.int .i64), .sl, .sl]) (h : H) : (fun a h => coder_Coder_Delta.f k (a.1) (a.2.1) (a.2.2.1) (a.2.2.2) h) a h = kfun Try.prog (coder_Coder_Delta.T k) (coder_Coder_Delta.an k) (RT [.sl, (.int .i64)] × H) Try.f46 (encL [.ptr, (.int .i64), .sl, .sl] a) h (fun vs h' => (decL [.sl, (.int .i64)] vs).bind fun x => some (x, h')) := by kernel_rfl
set_option maxRecDepth 100000 in
theorem coder_Coder_Delta.told {C : FuncId → Bool} {X : CallF} (hX : XOk C X) (k : Nat) : Den.Told Try.prog C X 46 [.ptr, (.int .i64), .sl, .sl] [.sl, (.int .i64)] (fun a h => coder_Coder_Delta.f k (a.1) (a.2.1) (a.2.2.1) (a.2.2.2) h) :=
  told_of fun a h q e => fn_of (c := coder_Coder_Delta.body) (coder_Coder_Delta.TS hX k) Try.func46 (by kernel_rfl) (hX.no 46 _ h (by decide))
    (by
      have e : need (coder_Coder_Delta.an k) coder_Coder_Delta.body 1 = [(Code.loop coder_Coder_Delta.c122, lrun [(0, .ptr), (1, (.int .i64)), (2, .sl), (3, .sl), (35, .sl), (36, (.int .i64)), (10, .sl), (37, (.int .i64))] none [(10, .sl)] 0 (fun a h => coder_Coder_Delta.l0 k k (a.1) (a.2.1) (a.2.2.1) (a.2.2.2.1) (a.2.2.2.2.1) (a.2.2.2.2.2.1) (a.2.2.2.2.2.2.1) (a.2.2.2.2.2.2.2) h))] := by kernel_rfl
      rw [e]; intro q hq
      rcases List.mem_cons.1 hq with rfl | hq
      · exact coder_Coder_Delta.l0_pass hX k k
      cases hq)
    ((coder_Coder_Delta.eq k a h).symm.trans e)
/-! ### slices.Equal[[]byte,byte] -/
noncomputable def slices_Equal_byte_byte.l0 (k : Nat) (n : Nat) : Sl → Sl → Int → Int → H → Option (((Bool) ⊕ (Unit)) × H) :=
  Nat.rec (motive := fun _ => Sl → Sl → Int → Int → H → Option (((Bool) ⊕ (Unit)) × H)) (fun _ _ _ _ _ => none) (fun _ ih x1 x2 x3 x4 h5 => cond (decide (x4 < x3))
      ((asP (ixs 1 x1.a x1.n x4)).bind fun p6 =>
    (asI .u8 (ldc h5 p6)).bind fun n7 =>
    (asP (ixs 1 x2.a x2.n x4)).bind fun p8 =>
    (asI .u8 (ldc h5 p8)).bind fun n9 =>
    cond (n7 != n9)
      (some (Sum.inl false, h5))
      (ih x1 x2 x3 (wrapA .i64 (x4 + (1 : Int))) h5))
      (some (Sum.inr (), h5))) n
theorem slices_Equal_byte_byte.l0_zero (k : Nat) (x1 : Sl) (x2 : Sl) (x3 : Int) (x4 : Int) (h5 : H) : slices_Equal_byte_byte.l0 k 0 x1 x2 x3 x4 h5 = none := rfl
theorem slices_Equal_byte_byte.l0_succ (k n : Nat) (x1 : Sl) (x2 : Sl) (x3 : Int) (x4 : Int) (h5 : H) : slices_Equal_byte_byte.l0 k (n + 1) x1 x2 x3 x4 h5 = (cond (decide (x4 < x3))
      ((asP (ixs 1 x1.a x1.n x4)).bind fun p6 =>
    (asI .u8 (ldc h5 p6)).bind fun n7 =>
    (asP (ixs 1 x2.a x2.n x4)).bind fun p8 =>
    (asI .u8 (ldc h5 p8)).bind fun n9 =>
    cond (n7 != n9)
      (some (Sum.inl false, h5))
      (slices_Equal_byte_byte.l0 k n x1 x2 x3 (wrapA .i64 (x4 + (1 : Int))) h5))
      (some (Sum.inr (), h5))) := rfl
noncomputable def slices_Equal_byte_byte.f (k : Nat) (a0 : Sl) (a1 : Sl) (h : H) : Option ((Bool) × H) :=
  cond ((Int.ofNat a0.n) != (Int.ofNat a1.n))
      (some (false, h))
      ((slices_Equal_byte_byte.l0 k k a0 a1 (Int.ofNat a0.n) (0 : Int) h).bind fun w10 =>
    match w10.1 with
    | .inl r11 => some (r11, w10.2)
    | .inr o12 => some (true, w10.2))
noncomputable def slices_Equal_byte_byte.T (k : Nat) : Tbl := tblOf []
noncomputable def slices_Equal_byte_byte.an (k : Nat) (p : Nat) : Option Ann := cond (Nat.beq p 58) (some (.pass [] (lrun [(0, .sl), (1, .sl), (12, (.int .i64)), (13, (.int .i64))] (some [(4, .bool)]) [] 0 (fun a h => slices_Equal_byte_byte.l0 k k (a.1) (a.2.1) (a.2.2.1) (a.2.2.2) h))))
  (none)
noncomputable def slices_Equal_byte_byte.body : Code := (Try.f58.body).getD .skip
noncomputable def slices_Equal_byte_byte.c58 : Code := cat slices_Equal_byte_byte.body [1, 1, 0, 1, 0, 0]
set_option maxRecDepth 100000 in
theorem slices_Equal_byte_byte.TS {C : FuncId → Bool} {X : CallF} (hX : XOk C X) (k : Nat) : TblS Try.prog C X (slices_Equal_byte_byte.T k) := by
  refine tblOf_sound ?_
  intro e he
  exact absurd he List.not_mem_nil
set_option maxRecDepth 100000 in
theorem slices_Equal_byte_byte.l0_pass {C : FuncId → Bool} {X : CallF} (hX : XOk C X) (k n : Nat) : PassS Try.prog C X 26 (.loop slices_Equal_byte_byte.c58) (lrun [(0, .sl), (1, .sl), (12, (.int .i64)), (13, (.int .i64))] (some [(4, .bool)]) [] 0 (fun a h => slices_Equal_byte_byte.l0 k n (a.1) (a.2.1) (a.2.2.1) (a.2.2.2) h)) :=
  loop_pass (ins := [(0, .sl), (1, .sl), (12, (.int .i64)), (13, (.int .i64))]) (rets := (some [(4, .bool)])) (outs := []) (id := 0) (tbl := slices_Equal_byte_byte.T k) (an := slices_Equal_byte_byte.an k) (pb := 116) (slices_Equal_byte_byte.TS hX k) (fun n => (fun a h => slices_Equal_byte_byte.l0 k n (a.1) (a.2.1) (a.2.2.1) (a.2.2.2) h)) (fun a h => rfl) (fun n a h => by kernel_rfl)
    (by
      have e : need (slices_Equal_byte_byte.an k) slices_Equal_byte_byte.c58 116 = [] := by kernel_rfl
      rw [e]; intro q hq; cases hq) n
set_option maxRecDepth 100000 in
theorem slices_Equal_byte_byte.eq (k : Nat) (a : RT [.sl, .sl]) (h : H) : (fun a h => slices_Equal_byte_byte.f k (a.1) (a.2) h) a h = kfun Try.prog (slices_Equal_byte_byte.T k) (slices_Equal_byte_byte.an k) (RT [.bool] × H) Try.f58 (encL [.sl, .sl] a) h (fun vs h' => (decL [.bool] vs).bind fun x => some (x, h')) := by kernel_rfl
set_option maxRecDepth 100000 in
theorem slices_Equal_byte_byte.told {C : FuncId → Bool} {X : CallF} (hX : XOk C X) (k : Nat) : Den.Told Try.prog C X 58 [.sl, .sl] [.bool] (fun a h => slices_Equal_byte_byte.f k (a.1) (a.2) h) :=
  told_of fun a h q e => fn_of (c := slices_Equal_byte_byte.body) (slices_Equal_byte_byte.TS hX k) Try.func58 (by kernel_rfl) (hX.no 58 _ h (by decide))
    (by
      have e : need (slices_Equal_byte_byte.an k) slices_Equal_byte_byte.body 1 = [(Code.loop slices_Equal_byte_byte.c58, lrun [(0, .sl), (1, .sl), (12, (.int .i64)), (13, (.int .i64))] (some [(4, .bool)]) [] 0 (fun a h => slices_Equal_byte_byte.l0 k k (a.1) (a.2.1) (a.2.2.1) (a.2.2.2) h))] := by kernel_rfl
      rw [e]; intro q hq
      rcases List.mem_cons.1 hq with rfl | hq
      · exact slices_Equal_byte_byte.l0_pass hX k k
      cases hq)
    ((slices_Equal_byte_byte.eq k a h).symm.trans e)
/-! ### corbel/matrix.Same$1 -/
noncomputable def matrix_Same_1.f (k : Nat) (a0 : Sl) (a1 : Sl) (h : H) : Option ((Bool) × H) :=
  (slices_Equal_byte_byte.f k a0 a1 h).bind fun q1 =>
    some (q1.1, q1.2)
noncomputable def matrix_Same_1.T (k : Nat) : Tbl := tblOf [⟨58, anyArgs, wr [.sl, .sl] [.bool] (fun a h => slices_Equal_byte_byte.f k (a.1) (a.2) h)⟩]
noncomputable def matrix_Same_1.an (k : Nat) (p : Nat) : Option Ann := none
noncomputable def matrix_Same_1.body : Code := (Try.f57.body).getD .skip
set_option maxRecDepth 100000 in
theorem matrix_Same_1.TS {C : FuncId → Bool} {X : CallF} (hX : XOk C X) (k : Nat) : TblS Try.prog C X (matrix_Same_1.T k) := by
  refine tblOf_sound ?_
  intro e he
  rcases List.mem_cons.1 he with rfl | he
  · exact wr_told (slices_Equal_byte_byte.told hX k)
  exact absurd he List.not_mem_nil
set_option maxRecDepth 100000 in
theorem matrix_Same_1.eq (k : Nat) (a : RT [.sl, .sl]) (h : H) : (fun a h => matrix_Same_1.f k (a.1) (a.2) h) a h = kfun Try.prog (matrix_Same_1.T k) (matrix_Same_1.an k) (RT [.bool] × H) Try.f57 (encL [.sl, .sl] a) h (fun vs h' => (decL [.bool] vs).bind fun x => some (x, h')) := by kernel_rfl
set_option maxRecDepth 100000 in
theorem matrix_Same_1.told {C : FuncId → Bool} {X : CallF} (hX : XOk C X) (k : Nat) : Den.Told Try.prog C X 57 [.sl, .sl] [.bool] (fun a h => matrix_Same_1.f k (a.1) (a.2) h) :=
  told_of fun a h q e => fn_of (c := matrix_Same_1.body) (matrix_Same_1.TS hX k) Try.func57 (by kernel_rfl) (hX.no 57 _ h (by decide))
    (by
      have e : need (matrix_Same_1.an k) matrix_Same_1.body 1 = [] := by kernel_rfl
      rw [e]; intro q hq; cases hq)
    ((matrix_Same_1.eq k a h).symm.trans e)
/-! ### slices.EqualFunc[[][]byte,[][]byte,[]byte,[]byte] -/
noncomputable def slices_EqualFunc_byte_byte_byte_byte_matrix_Same_1.l0 (k : Nat) (n : Nat) : Sl → Unit → Sl → Int → Int → H → Option (((Bool) ⊕ (Unit)) × H) :=
  Nat.rec (motive := fun _ => Sl → Unit → Sl → Int → Int → H → Option (((Bool) ⊕ (Unit)) × H)) (fun _ _ _ _ _ _ => none) (fun _ ih x1 x2 x3 x4 x5 h6 => cond (decide (x5 < x4))
      ((asP (ixs 1 x3.a x3.n x5)).bind fun p7 =>
    (asS (ldc h6 p7)).bind fun s8 =>
    (asP (ixs 1 x1.a x1.n x5)).bind fun p9 =>
    (asS (ldc h6 p9)).bind fun s10 =>
    (matrix_Same_1.f k s8 s10 h6).bind fun q11 =>
    cond (!q11.1)
      (some (Sum.inl false, q11.2))
      (ih x1 () x3 x4 (wrapA .i64 (x5 + (1 : Int))) q11.2))
      (some (Sum.inr (), h6))) n
theorem slices_EqualFunc_byte_byte_byte_byte_matrix_Same_1.l0_zero (k : Nat) (x1 : Sl) (x2 : Unit) (x3 : Sl) (x4 : Int) (x5 : Int) (h6 : H) : slices_EqualFunc_byte_byte_byte_byte_matrix_Same_1.l0 k 0 x1 x2 x3 x4 x5 h6 = none := rfl
theorem slices_EqualFunc_byte_byte_byte_byte_matrix_Same_1.l0_succ (k n : Nat) (x1 : Sl) (x2 : Unit) (x3 : Sl) (x4 : Int) (x5 : Int) (h6 : H) : slices_EqualFunc_byte_byte_byte_byte_matrix_Same_1.l0 k (n + 1) x1 x2 x3 x4 x5 h6 = (cond (decide (x5 < x4))
      ((asP (ixs 1 x3.a x3.n x5)).bind fun p7 =>
    (asS (ldc h6 p7)).bind fun s8 =>
    (asP (ixs 1 x1.a x1.n x5)).bind fun p9 =>
    (asS (ldc h6 p9)).bind fun s10 =>
    (matrix_Same_1.f k s8 s10 h6).bind fun q11 =>
    cond (!q11.1)
      (some (Sum.inl false, q11.2))
      (slices_EqualFunc_byte_byte_byte_byte_matrix_Same_1.l0 k n x1 () x3 x4 (wrapA .i64 (x5 + (1 : Int))) q11.2))
      (some (Sum.inr (), h6))) := rfl
noncomputable def slices_EqualFunc_byte_byte_byte_byte_matrix_Same_1.f (k : Nat) (a0 : Sl) (a1 : Sl) (a2 : Unit) (h : H) : Option ((Bool) × H) :=
  cond ((Int.ofNat a0.n) != (Int.ofNat a1.n))
      (some (false, h))
      ((slices_EqualFunc_byte_byte_byte_byte_matrix_Same_1.l0 k k a1 () a0 (Int.ofNat a0.n) (0 : Int) h).bind fun w12 =>
    match w12.1 with
    | .inl r13 => some (r13, w12.2)
    | .inr o14 => some (true, w12.2))
noncomputable def slices_EqualFunc_byte_byte_byte_byte_matrix_Same_1.T (k : Nat) : Tbl := tblOf [⟨57, anyArgs, wr [.sl, .sl] [.bool] (fun a h => matrix_Same_1.f k (a.1) (a.2) h)⟩]
noncomputable def slices_EqualFunc_byte_byte_byte_byte_matrix_Same_1.an (k : Nat) (p : Nat) : Option Ann := cond (Nat.beq p 58) (some (.pass [] (lrun [(1, .sl), (2, (.fn 57 0)), (15, .sl), (16, (.int .i64)), (17, (.int .i64))] (some [(6, .bool)]) [] 0 (fun a h => slices_EqualFunc_byte_byte_byte_byte_matrix_Same_1.l0 k k (a.1) (a.2.1) (a.2.2.1) (a.2.2.2.1) (a.2.2.2.2) h))))
  (none)
noncomputable def slices_EqualFunc_byte_byte_byte_byte_matrix_Same_1.body : Code := (Try.f56.body).getD .skip
noncomputable def slices_EqualFunc_byte_byte_byte_byte_matrix_Same_1.c58 : Code := cat slices_EqualFunc_byte_byte_byte_byte_matrix_Same_1.body [1, 1, 0, 1, 0, 0]
set_option maxRecDepth 100000 in
theorem slices_EqualFunc_byte_byte_byte_byte_matrix_Same_1.TS {C : FuncId → Bool} {X : CallF} (hX : XOk C X) (k : Nat) : TblS Try.prog C X (slices_EqualFunc_byte_byte_byte_byte_matrix_Same_1.T k) := by
  refine tblOf_sound ?_
  intro e he
  rcases List.mem_cons.1 he with rfl | he
  · exact wr_told (matrix_Same_1.told hX k)
  exact absurd he List.not_mem_nil
set_option maxRecDepth 100000 in
theorem slices_EqualFunc_byte_byte_byte_byte_matrix_Same_1.l0_pass {C : FuncId → Bool} {X : CallF} (hX : XOk C X) (k n : Nat) : PassS Try.prog C X 32 (.loop slices_EqualFunc_byte_byte_byte_byte_matrix_Same_1.c58) (lrun [(1, .sl), (2, (.fn 57 0)), (15, .sl), (16, (.int .i64)), (17, (.int .i64))] (some [(6, .bool)]) [] 0 (fun a h => slices_EqualFunc_byte_byte_byte_byte_matrix_Same_1.l0 k n (a.1) (a.2.1) (a.2.2.1) (a.2.2.2.1) (a.2.2.2.2) h)) :=
  loop_pass (ins := [(1, .sl), (2, (.fn 57 0)), (15, .sl), (16, (.int .i64)), (17, (.int .i64))]) (rets := (some [(6, .bool)])) (outs := []) (id := 0) (tbl := slices_EqualFunc_byte_byte_byte_byte_matrix_Same_1.T k) (an := slices_EqualFunc_byte_byte_byte_byte_matrix_Same_1.an k) (pb := 116) (slices_EqualFunc_byte_byte_byte_byte_matrix_Same_1.TS hX k) (fun n => (fun a h => slices_EqualFunc_byte_byte_byte_byte_matrix_Same_1.l0 k n (a.1) (a.2.1) (a.2.2.1) (a.2.2.2.1) (a.2.2.2.2) h)) (fun a h => rfl) (fun n a h => by kernel_rfl)
    (by
      have e : need (slices_EqualFunc_byte_byte_byte_byte_matrix_Same_1.an k) slices_EqualFunc_byte_byte_byte_byte_matrix_Same_1.c58 116 = [] := by kernel_rfl
      rw [e]; intro q hq; cases hq) n
set_option maxRecDepth 100000 in
theorem slices_EqualFunc_byte_byte_byte_byte_matrix_Same_1.eq (k : Nat) (a : RT [.sl, .sl, (.fn 57 0)]) (h : H) : (fun a h => slices_EqualFunc_byte_byte_byte_byte_matrix_Same_1.f k (a.1) (a.2.1) (a.2.2) h) a h = kfun Try.prog (slices_EqualFunc_byte_byte_byte_byte_matrix_Same_1.T k) (slices_EqualFunc_byte_byte_byte_byte_matrix_Same_1.an k) (RT [.bool] × H) Try.f56 (encL [.sl, .sl, (.fn 57 0)] a) h (fun vs h' => (decL [.bool] vs).bind fun x => some (x, h')) := by kernel_rfl
set_option maxRecDepth 100000 in
theorem slices_EqualFunc_byte_byte_byte_byte_matrix_Same_1.told {C : FuncId → Bool} {X : CallF} (hX : XOk C X) (k : Nat) : Den.Told Try.prog C X 56 [.sl, .sl, (.fn 57 0)] [.bool] (fun a h => slices_EqualFunc_byte_byte_byte_byte_matrix_Same_1.f k (a.1) (a.2.1) (a.2.2) h) :=
  told_of fun a h q e => fn_of (c := slices_EqualFunc_byte_byte_byte_byte_matrix_Same_1.body) (slices_EqualFunc_byte_byte_byte_byte_matrix_Same_1.TS hX k) Try.func56 (by kernel_rfl) (hX.no 56 _ h (by decide))
    (by
      have e : need (slices_EqualFunc_byte_byte_byte_byte_matrix_Same_1.an k) slices_EqualFunc_byte_byte_byte_byte_matrix_Same_1.body 1 = [(Code.loop slices_EqualFunc_byte_byte_byte_byte_matrix_Same_1.c58, lrun [(1, .sl), (2, (.fn 57 0)), (15, .sl), (16, (.int .i64)), (17, (.int .i64))] (some [(6, .bool)]) [] 0 (fun a h => slices_EqualFunc_byte_byte_byte_byte_matrix_Same_1.l0 k k (a.1) (a.2.1) (a.2.2.1) (a.2.2.2.1) (a.2.2.2.2) h))] := by kernel_rfl
      rw [e]; intro q hq
      rcases List.mem_cons.1 hq with rfl | hq
      · exact slices_EqualFunc_byte_byte_byte_byte_matrix_Same_1.l0_pass hX k k
      cases hq)
    ((slices_EqualFunc_byte_byte_byte_byte_matrix_Same_1.eq k a h).symm.trans e)
/-! ### corbel/matrix.Same -/
noncomputable def matrix_Same.f (k : Nat) (a0 : Sl) (a1 : Sl) (h : H) : Option ((Bool) × H) :=
  (slices_EqualFunc_byte_byte_byte_byte_matrix_Same_1.f k a0 a1 () h).bind fun q1 =>
    some (q1.1, q1.2)
noncomputable def matrix_Same.T (k : Nat) : Tbl := tblOf [⟨56, chkF [(2, 57)], wr [.sl, .sl, (.fn 57 0)] [.bool] (fun a h => slices_EqualFunc_byte_byte_byte_byte_matrix_Same_1.f k (a.1) (a.2.1) (a.2.2) h)⟩]
noncomputable def matrix_Same.an (k : Nat) (p : Nat) : Option Ann := none
noncomputable def matrix_Same.body : Code := (Try.f32.body).getD .skip
set_option maxRecDepth 100000 in
theorem matrix_Same.TS {C : FuncId → Bool} {X : CallF} (hX : XOk C X) (k : Nat) : TblS Try.prog C X (matrix_Same.T k) := by
  refine tblOf_sound ?_
  intro e he
  rcases List.mem_cons.1 he with rfl | he
  · exact wr_told (slices_EqualFunc_byte_byte_byte_byte_matrix_Same_1.told hX k)
  exact absurd he List.not_mem_nil
set_option maxRecDepth 100000 in
theorem matrix_Same.eq (k : Nat) (a : RT [.sl, .sl]) (h : H) : (fun a h => matrix_Same.f k (a.1) (a.2) h) a h = kfun Try.prog (matrix_Same.T k) (matrix_Same.an k) (RT [.bool] × H) Try.f32 (encL [.sl, .sl] a) h (fun vs h' => (decL [.bool] vs).bind fun x => some (x, h')) := by kernel_rfl
set_option maxRecDepth 100000 in
theorem matrix_Same.told {C : FuncId → Bool} {X : CallF} (hX : XOk C X) (k : Nat) : Den.Told Try.prog C X 32 [.sl, .sl] [.bool] (fun a h => matrix_Same.f k (a.1) (a.2) h) :=
  told_of fun a h q e => fn_of (c := matrix_Same.body) (matrix_Same.TS hX k) Try.func32 (by kernel_rfl) (hX.no 32 _ h (by decide))
    (by
      have e : need (matrix_Same.an k) matrix_Same.body 1 = [] := by kernel_rfl
      rw [e]; intro q hq; cases hq)
    ((matrix_Same.eq k a h).symm.trans e)
/-! ### (*corbel/coder.Coder).Check -/
noncomputable def coder_Coder_Check.f (k : Nat) (a0 : Option Addr) (a1 : Sl) (h : H) : Option ((Bool) × H) :=
  (coder_Coder_Decode.f k a0 a1 h).bind fun q1 =>
    cond (!q1.1.2)
      (some (false, q1.2))
      ((coder_Coder_Encode.f k a0 q1.1.1 q1.2).bind fun q2 =>
    (matrix_Same.f k q2.1.1 a1 q2.2).bind fun q3 =>
    some (q3.1, q3.2))
noncomputable def coder_Coder_Check.T (k : Nat) : Tbl := tblOf [⟨49, anyArgs, wr [.ptr, .sl] [.sl, .bool] (fun a h => coder_Coder_Decode.f k (a.1) (a.2) h)⟩,
  ⟨45, anyArgs, wr [.ptr, .sl] [.sl, (.int .i64)] (fun a h => coder_Coder_Encode.f k (a.1) (a.2) h)⟩,
  ⟨32, anyArgs, wr [.sl, .sl] [.bool] (fun a h => matrix_Same.f k (a.1) (a.2) h)⟩]
noncomputable def coder_Coder_Check.an (k : Nat) (p : Nat) : Option Ann := none
noncomputable def coder_Coder_Check.body : Code := (Try.f51.body).getD .skip
set_option maxRecDepth 100000 in
theorem coder_Coder_Check.TS {C : FuncId → Bool} {X : CallF} (hX : XOk C X) (k : Nat) : TblS Try.prog C X (coder_Coder_Check.T k) := by
  refine tblOf_sound ?_
  intro e he
  rcases List.mem_cons.1 he with rfl | he
  · exact wr_told (coder_Coder_Decode.told hX k)
  rcases List.mem_cons.1 he with rfl | he
  · exact wr_told (coder_Coder_Encode.told hX k)
  rcases List.mem_cons.1 he with rfl | he
  · exact wr_told (matrix_Same.told hX k)
  exact absurd he List.not_mem_nil
set_option maxRecDepth 100000 in
theorem coder_Coder_Check.eq (k : Nat) (a : RT [.ptr, .sl]) (h : H) : (fun a h => coder_Coder_Check.f k (a.1) (a.2) h) a h = kfun Try.prog (coder_Coder_Check.T k) (coder_Coder_Check.an k) (RT [.bool] × H) Try.f51 (encL [.ptr, .sl] a) h (fun vs h' => (decL [.bool] vs).bind fun x => some (x, h')) := by kernel_rfl
set_option maxRecDepth 100000 in
theorem coder_Coder_Check.told {C : FuncId → Bool} {X : CallF} (hX : XOk C X) (k : Nat) : Den.Told Try.prog C X 51 [.ptr, .sl] [.bool] (fun a h => coder_Coder_Check.f k (a.1) (a.2) h) :=
  told_of fun a h q e => fn_of (c := coder_Coder_Check.body) (coder_Coder_Check.TS hX k) Try.func51 (by kernel_rfl) (hX.no 51 _ h (by decide))
    (by
      have e : need (coder_Coder_Check.an k) coder_Coder_Check.body 1 = [] := by kernel_rfl
      rw [e]; intro q hq; cases hq)
    ((coder_Coder_Check.eq k a h).symm.trans e)
/-! ### (*corbel/coder.Coder).Row -/
noncomputable def coder_Coder_Row.f (k : Nat) (a0 : Option Addr) (a1 : Int) (h : H) : Option ((Sl) × H) :=
  (cond (decide (a1 < (0 : Int))) (some (true, h))
      ((asP (nilA (Value.pointer a0))).bind fun p1 =>
    (asP (fadd 1 p1)).bind fun p2 =>
    (asS (ldc h p2)).bind fun s3 =>
    some (decide (a1 ≥ (Int.ofNat s3.n)), h))).bind fun g4 =>
    cond g4.1
      (some ((⟨none, 0, 0⟩ : Sl), g4.2))
      ((asP (nilA (Value.pointer a0))).bind fun p5 =>
    (asP (fadd 1 p5)).bind fun p6 =>
    (asS (ldc g4.2 p6)).bind fun s7 =>
    (asP (ixs 1 s7.a s7.n a1)).bind fun p8 =>
    (asS (ldc g4.2 p8)).bind fun s9 =>
    (slices_Clone_byte_byte.f k s9 g4.2).bind fun q10 =>
    some (q10.1, q10.2))
noncomputable def coder_Coder_Row.T (k : Nat) : Tbl := tblOf [⟨55, anyArgs, wr [.sl] [.sl] (fun a h => slices_Clone_byte_byte.f k a h)⟩]
noncomputable def coder_Coder_Row.an (k : Nat) (p : Nat) : Option Ann := none
noncomputable def coder_Coder_Row.body : Code := (Try.f52.body).getD .skip
set_option maxRecDepth 100000 in
theorem coder_Coder_Row.TS {C : FuncId → Bool} {X : CallF} (hX : XOk C X) (k : Nat) : TblS Try.prog C X (coder_Coder_Row.T k) := by
  refine tblOf_sound ?_
  intro e he
  rcases List.mem_cons.1 he with rfl | he
  · exact wr_told (slices_Clone_byte_byte.told hX k)
  exact absurd he List.not_mem_nil
set_option maxRecDepth 100000 in
theorem coder_Coder_Row.eq (k : Nat) (a : RT [.ptr, (.int .i64)]) (h : H) : (fun a h => coder_Coder_Row.f k (a.1) (a.2) h) a h = kfun Try.prog (coder_Coder_Row.T k) (coder_Coder_Row.an k) (RT [.sl] × H) Try.f52 (encL [.ptr, (.int .i64)] a) h (fun vs h' => (decL [.sl] vs).bind fun x => some (x, h')) := by kernel_rfl
set_option maxRecDepth 100000 in
theorem coder_Coder_Row.told {C : FuncId → Bool} {X : CallF} (hX : XOk C X) (k : Nat) : Den.Told Try.prog C X 52 [.ptr, (.int .i64)] [.sl] (fun a h => coder_Coder_Row.f k (a.1) (a.2) h) :=
  told_of fun a h q e => fn_of (c := coder_Coder_Row.body) (coder_Coder_Row.TS hX k) Try.func52 (by kernel_rfl) (hX.no 52 _ h (by decide))
    (by
      have e : need (coder_Coder_Row.an k) coder_Coder_Row.body 1 = [] := by kernel_rfl
      rw [e]; intro q hq; cases hq)
    ((coder_Coder_Row.eq k a h).symm.trans e)
/-! ### corbel/corbellaw5.CoderKnown -/
noncomputable def corbellaw5_CoderKnown.l0 (k : Nat) (n : Nat) : (Option Addr) → Int → Sl → Int → Int → H → Option (((Bool) ⊕ (Unit)) × H) :=
  Nat.rec (motive := fun _ => (Option Addr) → Int → Sl → Int → Int → H → Option (((Bool) ⊕ (Unit)) × H)) (fun _ _ _ _ _ _ => none) (fun _ ih x7 x8 x9 x10 x11 h12 => cond (decide (x11 < x10))
      ((asP (ixs 1 x9.a x9.n x11)).bind fun p13 =>
    (asS (ldc h12 p13)).bind fun s14 =>
    cond ((Int.ofNat s14.n) != (32 : Int))
      (some (Sum.inl false, h12))
      (ih x7 x8 x9 x10 (wrapA .i64 (x11 + (1 : Int))) h12))
      (some (Sum.inr (), h12))) n
theorem corbellaw5_CoderKnown.l0_zero (k : Nat) (x7 : Option Addr) (x8 : Int) (x9 : Sl) (x10 : Int) (x11 : Int) (h12 : H) : corbellaw5_CoderKnown.l0 k 0 x7 x8 x9 x10 x11 h12 = none := rfl
theorem corbellaw5_CoderKnown.l0_succ (k n : Nat) (x7 : Option Addr) (x8 : Int) (x9 : Sl) (x10 : Int) (x11 : Int) (h12 : H) : corbellaw5_CoderKnown.l0 k (n + 1) x7 x8 x9 x10 x11 h12 = (cond (decide (x11 < x10))
      ((asP (ixs 1 x9.a x9.n x11)).bind fun p13 =>
    (asS (ldc h12 p13)).bind fun s14 =>
    cond ((Int.ofNat s14.n) != (32 : Int))
      (some (Sum.inl false, h12))
      (corbellaw5_CoderKnown.l0 k n x7 x8 x9 x10 (wrapA .i64 (x11 + (1 : Int))) h12))
      (some (Sum.inr (), h12))) := rfl
noncomputable def corbellaw5_CoderKnown.f (k : Nat) (h : H) : Option ((Bool) × H) :=
  (coder_New.f k h).bind fun q1 =>
    (cond (!true) (some (true, q1.2))
      ((asB (binO1 Try.prog .eql 53 (Value.pointer q1.1) (Value.pointer none))).bind fun b2 =>
    some (b2, q1.2))).bind fun g3 =>
    cond g3.1
      (some (false, g3.2))
      ((coder_Coder_Encode.f k q1.1 (⟨(some ⟨g3.2.next, 0, none⟩), 127, 127⟩ : Sl) (newZ g3.2 5 1 [(Value.int .u8 (0 : Int))] 127)).bind fun q4 =>
    (corbelhand_Bytes.f k (5 : Int) (128 : Int) q4.2).bind fun q5 =>
    (coder_Coder_Encode.f k q1.1 q5.1 q5.2).bind fun q6 =>
    cond ((Int.ofNat q6.1.1.n) != (6 : Int))
      (some (false, q6.2))
      ((corbellaw5_CoderKnown.l0 k k q1.1 q4.1.2 q6.1.1 (Int.ofNat q6.1.1.n) (0 : Int) q6.2).bind fun w15 =>
    match w15.1 with
    | .inl r16 => some (r16, w15.2)
    | .inr o17 => (asP (ixs 1 q6.1.1.a q6.1.1.n (0 : Int))).bind fun p18 =>
    (asS (ldc w15.2 p18)).bind fun s19 =>
    (asP (ixs 1 q6.1.1.a q6.1.1.n (2 : Int))).bind fun p20 =>
    (asS (ldc w15.2 p20)).bind fun s21 =>
    (asP (ixs 1 q6.1.1.a q6.1.1.n (4 : Int))).bind fun p22 =>
    (asS (ldc (newR w15.2 5 1 []) p22)).bind fun s23 =>
    (coder_Coder_Decode.f k q1.1 (⟨(some ⟨(newR w15.2 5 1 []).next, 0, none⟩), 6, 6⟩ : Sl) (newR (newR w15.2 5 1 []) 40 1 [(Value.slice s19.a s19.n s19.c), (Value.slice none 0 0), (Value.slice s21.a s21.n s21.c), (Value.slice (some ⟨w15.2.next, 0, none⟩) 0 0), (Value.slice s23.a s23.n s23.c), (Value.slice none 0 0)])).bind fun q24 =>
    (asS (subs 1 (Value.slice q6.1.1.a q6.1.1.n q6.1.1.c) none (some (5 : Int)))).bind fun s25 =>
    (coder_Coder_Decode.f k q1.1 s25 q24.2).bind fun q26 =>
    (asP (ixs 1 q6.1.1.a q6.1.1.n (0 : Int))).bind fun p27 =>
    (asS (ldc q26.2 p27)).bind fun s28 =>
    (asP (ixs 1 q6.1.1.a q6.1.1.n (1 : Int))).bind fun p29 =>
    (asS (ldc q26.2 p29)).bind fun s30 =>
    (asP (ixs 1 q6.1.1.a q6.1.1.n (2 : Int))).bind fun p31 =>
    (asS (ldc q26.2 p31)).bind fun s32 =>
    (asP (ixs 1 q6.1.1.a q6.1.1.n (3 : Int))).bind fun p33 =>
    (asS (ldc q26.2 p33)).bind fun s34 =>
    (asP (ixs 1 q6.1.1.a q6.1.1.n (4 : Int))).bind fun p35 =>
    (asS (ldc q26.2 p35)).bind fun s36 =>
    (asS (subs 1 (Value.slice s36.a s36.n s36.c) none (some (5 : Int)))).bind fun s37 =>
    (coder_Coder_Decode.f k q1.1 (⟨(some ⟨q26.2.next, 0, none⟩), 6, 6⟩ : Sl) (newR q26.2 40 1 [(Value.slice s28.a s28.n s28.c), (Value.slice s30.a s30.n s30.c), (Value.slice s32.a s32.n s32.c), (Value.slice s34.a s34.n s34.c), (Value.slice s37.a s37.n s37.c), (Value.slice none 0 0)])).bind fun q38 =>
    (asS2 (apv 40 1 24 (Value.slice (some ⟨q38.2.next, 0, none⟩) 0 0) (Value.slice q6.1.1.a q6.1.1.n q6.1.1.c) (newR q38.2 40 1 []))).bind fun q39 =>
    (asP (ixs 1 q6.1.1.a q6.1.1.n (5 : Int))).bind fun p40 =>
    (asS (ldc (newR q39.2 5 1 []) p40)).bind fun s41 =>
    (asS (subs 1 (Value.slice s41.a s41.n s41.c) none (some (31 : Int)))).bind fun s42 =>
    (asS2 (apv 5 1 1 (Value.slice (some ⟨q39.2.next, 0, none⟩) 0 0) (Value.slice s42.a s42.n s42.c) (newR q39.2 5 1 []))).bind fun q43 =>
    (asP (ixs 1 q6.1.1.a q6.1.1.n (5 : Int))).bind fun p44 =>
    (asS (ldc q43.2 p44)).bind fun s45 =>
    (asP (ixs 1 s45.a s45.n (31 : Int))).bind fun p46 =>
    (asI .u8 (ldc q43.2 p46)).bind fun n47 =>
    (asI .u8 (intA .xor .u8 n47 (1 : Int))).bind fun n48 =>
    (asS2 (apv 5 1 1 (Value.slice q43.1.a q43.1.n q43.1.c) (Value.slice (some ⟨q43.2.next, 0, none⟩) 1 1) (newR q43.2 5 1 [(Value.int .u8 n48)]))).bind fun q49 =>
    (asP (ixs 1 q39.1.a q39.1.n (5 : Int))).bind fun p50 =>
    (stv 1 q49.2 p50 [(Value.slice q49.1.a q49.1.n q49.1.c)]).bind fun q51 =>
    cond (same1 (newR q39.2 5 1 []) q43.2 (some (Value.pointer p44)) && (same1 (newR q39.2 5 1 []) q43.2 (some (Value.pointer p46)) && (true))) ((asP (ixs 1 q6.1.1.a q6.1.1.n (0 : Int))).bind fun p52 =>
    (asS (ldc q51.2 p52)).bind fun s53 =>
    (asP (ixs 1 q6.1.1.a q6.1.1.n (1 : Int))).bind fun p54 =>
    (asS (ldc q51.2 p54)).bind fun s55 =>
    (coder_Coder_Delta.f k q1.1 (4 : Int) s53 s55 q51.2).bind fun q56 =>
    (asP (ixs 1 q6.1.1.a q6.1.1.n (0 : Int))).bind fun p57 =>
    (asS (ldc q56.2 p57)).bind fun s58 =>
    (asS (subs 1 (Value.slice s58.a s58.n s58.c) none (some (3 : Int)))).bind fun s59 =>
    (asP (ixs 1 q6.1.1.a q6.1.1.n (1 : Int))).bind fun p60 =>
    (asS (ldc q56.2 p60)).bind fun s61 =>
    (coder_Coder_Delta.f k q1.1 (0 : Int) s59 s61 q56.2).bind fun q62 =>
    (cond (q4.1.2 == (1 : Int)) (some (!q24.1.2, q62.2))
      (some (false, q62.2))).bind fun g63 =>
    (cond g63.1 (some (!q26.1.2, g63.2))
      (some (false, g63.2))).bind fun g64 =>
    (cond g64.1 (some (!q38.1.2, g64.2))
      (some (false, g64.2))).bind fun g65 =>
    (cond g65.1 ((coder_Coder_Check.f k q1.1 q6.1.1 g65.2).bind fun q66 =>
    some (q66.1, q66.2))
      (some (false, g65.2))).bind fun g67 =>
    (cond g67.1 ((coder_Coder_Check.f k q1.1 q39.1 g67.2).bind fun q68 =>
    some (!q68.1, q68.2))
      (some (false, g67.2))).bind fun g69 =>
    (cond g69.1 ((asS (subs 1 (Value.slice q6.1.1.a q6.1.1.n q6.1.1.c) none (some (5 : Int)))).bind fun s70 =>
    (coder_Coder_Check.f k q1.1 s70 g69.2).bind fun q71 =>
    some (!q71.1, q71.2))
      (some (false, g69.2))).bind fun g72 =>
    (cond g72.1 (some (q56.1.2 == (1 : Int), g72.2))
      (some (false, g72.2))).bind fun g73 =>
    (cond g73.1 (some (q62.1.2 == (1 : Int), g73.2))
      (some (false, g73.2))).bind fun g74 =>
    (cond g74.1 ((coder_Coder_Row.f k q1.1 (5 : Int) g74.2).bind fun q75 =>
    (asT (txt q75.2 (Value.slice q75.1.a q75.1.n q75.1.c))).bind fun s76 =>
    some (s76.toList == (⟨#[1, 2, 4, 8]⟩ : ByteArray).toList, q75.2))
      (some (false, g74.2))).bind fun g77 =>
    (cond g77.1 ((coder_Coder_Row.f k q1.1 (1 : Int) g77.2).bind fun q78 =>
    (asT (txt q78.2 (Value.slice q78.1.a q78.1.n q78.1.c))).bind fun s79 =>
    some (s79.toList == (⟨#[0, 1, 0, 0]⟩ : ByteArray).toList, q78.2))
      (some (false, g77.2))).bind fun g80 =>
    (cond g80.1 ((coder_Coder_Row.f k q1.1 (6 : Int) g80.2).bind fun q81 =>
    some ((Int.ofNat q81.1.n) == (0 : Int), q81.2))
      (some (false, g80.2))).bind fun g82 =>
    (cond g82.1 ((coder_Coder_Row.f k q1.1 (-1 : Int) g82.2).bind fun q83 =>
    some ((Int.ofNat q83.1.n) == (0 : Int), q83.2))
      (some (false, g82.2))).bind fun g84 =>
    some (g84.1, g84.2)) none))
noncomputable def corbellaw5_CoderKnown.T (k : Nat) : Tbl := tblOf [⟨42, anyArgs, wr [] [.ptr] (fun a h => coder_New.f k h)⟩,
  ⟨43, anyArgs, knownW⟩,
  ⟨45, anyArgs, wr [.ptr, .sl] [.sl, (.int .i64)] (fun a h => coder_Coder_Encode.f k (a.1) (a.2) h)⟩,
  ⟨44, anyArgs, wr [(.int .i64), (.int .i64)] [.sl] (fun a h => corbelhand_Bytes.f k (a.1) (a.2) h)⟩,
  ⟨49, anyArgs, wr [.ptr, .sl] [.sl, .bool] (fun a h => coder_Coder_Decode.f k (a.1) (a.2) h)⟩,
  ⟨46, anyArgs, wr [.ptr, (.int .i64), .sl, .sl] [.sl, (.int .i64)] (fun a h => coder_Coder_Delta.f k (a.1) (a.2.1) (a.2.2.1) (a.2.2.2) h)⟩,
  ⟨51, anyArgs, wr [.ptr, .sl] [.bool] (fun a h => coder_Coder_Check.f k (a.1) (a.2) h)⟩,
  ⟨52, anyArgs, wr [.ptr, (.int .i64)] [.sl] (fun a h => coder_Coder_Row.f k (a.1) (a.2) h)⟩]
noncomputable def corbellaw5_CoderKnown.an (k : Nat) (p : Nat) : Option Ann := cond (Nat.beq p 1018) (some (.pass [1, 3, 4] (lrun [(1, .ptr), (3, (.int .i64)), (4, .sl), (41, (.int .i64)), (42, (.int .i64))] (some [(0, .bool)]) [] 0 (fun a h => corbellaw5_CoderKnown.l0 k k (a.1) (a.2.1) (a.2.2.1) (a.2.2.2.1) (a.2.2.2.2) h))))
  (none)
noncomputable def corbellaw5_CoderKnown.body : Code := (Try.f17.body).getD .skip
noncomputable def corbellaw5_CoderKnown.c1018 : Code := cat corbellaw5_CoderKnown.body [1, 1, 1, 1, 1, 1, 0, 1, 0, 0]
set_option maxRecDepth 100000 in
theorem corbellaw5_CoderKnown.TS {C : FuncId → Bool} {X : CallF} (hX : XOk C X) (hK43 : KOk X 43) (k : Nat) : TblS Try.prog C X (corbellaw5_CoderKnown.T k) := by
  refine tblOf_sound ?_
  intro e he
  rcases List.mem_cons.1 he with rfl | he
  · exact wr_told (coder_New.told hX k)
  rcases List.mem_cons.1 he with rfl | he
  · exact knownW_told hK43
  rcases List.mem_cons.1 he with rfl | he
  · exact wr_told (coder_Coder_Encode.told hX k)
  rcases List.mem_cons.1 he with rfl | he
  · exact wr_told (corbelhand_Bytes.told hX k)
  rcases List.mem_cons.1 he with rfl | he
  · exact wr_told (coder_Coder_Decode.told hX k)
  rcases List.mem_cons.1 he with rfl | he
  · exact wr_told (coder_Coder_Delta.told hX k)
  rcases List.mem_cons.1 he with rfl | he
  · exact wr_told (coder_Coder_Check.told hX k)
  rcases List.mem_cons.1 he with rfl | he
  · exact wr_told (coder_Coder_Row.told hX k)
  exact absurd he List.not_mem_nil
set_option maxRecDepth 100000 in
theorem corbellaw5_CoderKnown.l0_pass {C : FuncId → Bool} {X : CallF} (hX : XOk C X) (hK43 : KOk X 43) (k n : Nat) : PassS Try.prog C X 203 (.loop corbellaw5_CoderKnown.c1018) (lrun [(1, .ptr), (3, (.int .i64)), (4, .sl), (41, (.int .i64)), (42, (.int .i64))] (some [(0, .bool)]) [] 0 (fun a h => corbellaw5_CoderKnown.l0 k n (a.1) (a.2.1) (a.2.2.1) (a.2.2.2.1) (a.2.2.2.2) h)) :=
  loop_pass (ins := [(1, .ptr), (3, (.int .i64)), (4, .sl), (41, (.int .i64)), (42, (.int .i64))]) (rets := (some [(0, .bool)])) (outs := []) (id := 0) (tbl := corbellaw5_CoderKnown.T k) (an := corbellaw5_CoderKnown.an k) (pb := 2036) (corbellaw5_CoderKnown.TS hX hK43 k) (fun n => (fun a h => corbellaw5_CoderKnown.l0 k n (a.1) (a.2.1) (a.2.2.1) (a.2.2.2.1) (a.2.2.2.2) h)) (fun a h => rfl) (fun n a h => by kernel_rfl)
    (by
      have e : need (corbellaw5_CoderKnown.an k) corbellaw5_CoderKnown.c1018 2036 = [] := by kernel_rfl
      rw [e]; intro q hq; cases hq) n
set_option maxRecDepth 100000 in
theorem corbellaw5_CoderKnown.eq (k : Nat) (a : RT []) (h : H) : (fun a h => corbellaw5_CoderKnown.f k h) a h = kfun Try.prog (corbellaw5_CoderKnown.T k) (corbellaw5_CoderKnown.an k) (RT [.bool] × H) Try.f17 (encL [] a) h (fun vs h' => (decL [.bool] vs).bind fun x => some (x, h')) := by kernel_rfl
set_option maxRecDepth 100000 in
theorem corbellaw5_CoderKnown.told {C : FuncId → Bool} {X : CallF} (hX : XOk C X) (hK43 : KOk X 43) (k : Nat) : Den.Told Try.prog C X 17 [] [.bool] (fun a h => corbellaw5_CoderKnown.f k h) :=
  told_of fun a h q e => fn_of (c := corbellaw5_CoderKnown.body) (corbellaw5_CoderKnown.TS hX hK43 k) Try.func17 (by kernel_rfl) (hX.no 17 _ h (by decide))
    (by
      have e : need (corbellaw5_CoderKnown.an k) corbellaw5_CoderKnown.body 1 = [(Code.loop corbellaw5_CoderKnown.c1018, lrun [(1, .ptr), (3, (.int .i64)), (4, .sl), (41, (.int .i64)), (42, (.int .i64))] (some [(0, .bool)]) [] 0 (fun a h => corbellaw5_CoderKnown.l0 k k (a.1) (a.2.1) (a.2.2.1) (a.2.2.2.1) (a.2.2.2.2) h))] := by kernel_rfl
      rw [e]; intro q hq
      rcases List.mem_cons.1 hq with rfl | hq
      · exact corbellaw5_CoderKnown.l0_pass hX hK43 k k
      cases hq)
    ((corbellaw5_CoderKnown.eq k a h).symm.trans e)
end Go.Proofs.Ytnjeafdbifcfhaa.Fwd
