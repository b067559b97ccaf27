/- Forward runs of functions of the program, printed by a program of this session: each function on plain values and memory, and that the code comes to it. No condition. -/
import Derived.Test.YtnjeafdbifcfhaaDenZ
import Derived.KernelRfl
namespace Go.Proofs.Ytnjeafdbifcfhaa.Fwd
open Go Den
set_option linter.unusedVariables false
/-! ### corbel/corbelhand.Pick -/
noncomputable def corbelhand_Pick.f (k : Nat) (a0 : Int) (a1 : Int) (h : H) : Option ((Int) × H) :=
  (asI .i64 (intA .rem .i64 a0 a1)).bind fun n1 =>
    (cond (decide (n1 < (0 : Int)))
      (some (wrapA .i64 (n1 + a1), h))
      (some (n1, h)) : Option ((Int) × H)).bind fun j2 =>
    some (j2.1, j2.2)
noncomputable def corbelhand_Pick.T (k : Nat) : Tbl := tblOf []
noncomputable def corbelhand_Pick.an (k : Nat) (p : Nat) : Option Ann := cond (Nat.beq p 29) (some (.join [] none [(0, (.int .i64))]))
  (none)
noncomputable def corbelhand_Pick.body : Code := (Try.f36.body).getD .skip
set_option maxRecDepth 100000 in
theorem corbelhand_Pick.TS {C : FuncId → Bool} {X : CallF} (hX : XOk C X) (k : Nat) : TblS Try.prog C X (corbelhand_Pick.T k) := by
  refine tblOf_sound ?_
  intro e he
  exact absurd he List.not_mem_nil
set_option maxRecDepth 100000 in
theorem corbelhand_Pick.eq (k : Nat) (a : RT [(.int .i64), (.int .i64)]) (h : H) : (fun a h => corbelhand_Pick.f k (a.1) (a.2) h) a h = kfun Try.prog (corbelhand_Pick.T k) (corbelhand_Pick.an k) (RT [(.int .i64)] × H) Try.f36 (encL [(.int .i64), (.int .i64)] a) h (fun vs h' => (decL [(.int .i64)] vs).bind fun x => some (x, h')) := by kernel_rfl
set_option maxRecDepth 100000 in
theorem corbelhand_Pick.told {C : FuncId → Bool} {X : CallF} (hX : XOk C X) (k : Nat) : Den.Told Try.prog C X 36 [(.int .i64), (.int .i64)] [(.int .i64)] (fun a h => corbelhand_Pick.f k (a.1) (a.2) h) :=
  told_of fun a h q e => fn_of (c := corbelhand_Pick.body) (corbelhand_Pick.TS hX k) Try.func36 (by kernel_rfl) (hX.no 36 _ h (by decide))
    (by
      have e : need (corbelhand_Pick.an k) corbelhand_Pick.body 1 = [] := by kernel_rfl
      rw [e]; intro q hq; cases hq)
    ((corbelhand_Pick.eq k a h).symm.trans e)
/-! ### corbel/corbelhand.Bytes -/
noncomputable def corbelhand_Bytes.l0 (k : Nat) (n : Nat) : Int → Sl → Int → Int → H → Option ((Unit) × H) :=
  Nat.rec (motive := fun _ => Int → Sl → Int → Int → H → Option ((Unit) × H)) (fun _ _ _ _ _ => none) (fun _ ih x3 x4 x5 x6 h7 => cond (decide (x6 < x3))
      ((asP (ixs 1 x4.a x4.n x6)).bind fun p8 =>
    (stv 1 h7 p8 [(Value.int .u8 (wrapA .u8 ((wrapA .u64 ((wrapA .u64 (x5 * (6364136223846793005 : Int))) + (1442695040888963407 : Int))).fdiv (2 ^ 56))))]).bind fun q9 =>
    ih x3 x4 (wrapA .u64 ((wrapA .u64 (x5 * (6364136223846793005 : Int))) + (1442695040888963407 : Int))) (wrapA .i64 (x6 + (1 : Int))) q9.2)
      (some ((), h7))) n
theorem corbelhand_Bytes.l0_zero (k : Nat) (x3 : Int) (x4 : Sl) (x5 : Int) (x6 : Int) (h7 : H) : corbelhand_Bytes.l0 k 0 x3 x4 x5 x6 h7 = none := rfl
theorem corbelhand_Bytes.l0_succ (k n : Nat) (x3 : Int) (x4 : Sl) (x5 : Int) (x6 : Int) (h7 : H) : corbelhand_Bytes.l0 k (n + 1) x3 x4 x5 x6 h7 = (cond (decide (x6 < x3))
      ((asP (ixs 1 x4.a x4.n x6)).bind fun p8 =>
    (stv 1 h7 p8 [(Value.int .u8 (wrapA .u8 ((wrapA .u64 ((wrapA .u64 (x5 * (6364136223846793005 : Int))) + (1442695040888963407 : Int))).fdiv (2 ^ 56))))]).bind fun q9 =>
    corbelhand_Bytes.l0 k n x3 x4 (wrapA .u64 ((wrapA .u64 (x5 * (6364136223846793005 : Int))) + (1442695040888963407 : Int))) (wrapA .i64 (x6 + (1 : Int))) q9.2)
      (some ((), h7))) := rfl
noncomputable def corbelhand_Bytes.f (k : Nat) (a0 : Int) (a1 : Int) (h : H) : Option ((Sl) × H) :=
  (asS2 (mkz 5 1 1 [(Value.int .u8 (0 : Int))] a1 a1 h)).bind fun q1 =>
    (corbelhand_Pick.f k a0 (7 : Int) q1.2).bind fun q2 =>
    cond (q2.1 == (6 : Int))
      (some (q1.1, q2.2))
      ((corbelhand_Bytes.l0 k k a1 q1.1 (wrapA .u64 ((wrapA .u64 ((wrapA .u64 a0) * (2654435761 : Int))) + (12345 : Int))) (0 : Int) q2.2).bind fun w10 =>
    some (q1.1, w10.2))
noncomputable def corbelhand_Bytes.T (k : Nat) : Tbl := tblOf [⟨36, anyArgs, wr [(.int .i64), (.int .i64)] [(.int .i64)] (fun a h => corbelhand_Pick.f k (a.1) (a.2) h)⟩]
noncomputable def corbelhand_Bytes.an (k : Nat) (p : Nat) : Option Ann := cond (Nat.beq p 250) (some (.pass [5] (lrun [(1, (.int .i64)), (5, .sl), (6, (.int .u64)), (7, (.int .i64))] none [] 0 (fun a h => corbelhand_Bytes.l0 k k (a.1) (a.2.1) (a.2.2.1) (a.2.2.2) h))))
  (none)
noncomputable def corbelhand_Bytes.body : Code := (Try.f44.body).getD .skip
noncomputable def corbelhand_Bytes.c250 : Code := cat corbelhand_Bytes.body [1, 1, 1, 1, 0, 1, 0, 0]
set_option maxRecDepth 100000 in
theorem corbelhand_Bytes.TS {C : FuncId → Bool} {X : CallF} (hX : XOk C X) (k : Nat) : TblS Try.prog C X (corbelhand_Bytes.T k) := by
  refine tblOf_sound ?_
  intro e he
  rcases List.mem_cons.1 he with rfl | he
  · exact wr_told (corbelhand_Pick.told hX k)
  exact absurd he List.not_mem_nil
set_option maxRecDepth 100000 in
theorem corbelhand_Bytes.l0_pass {C : FuncId → Bool} {X : CallF} (hX : XOk C X) (k n : Nat) : PassS Try.prog C X 33 (.loop corbelhand_Bytes.c250) (lrun [(1, (.int .i64)), (5, .sl), (6, (.int .u64)), (7, (.int .i64))] none [] 0 (fun a h => corbelhand_Bytes.l0 k n (a.1) (a.2.1) (a.2.2.1) (a.2.2.2) h)) :=
  loop_pass (ins := [(1, (.int .i64)), (5, .sl), (6, (.int .u64)), (7, (.int .i64))]) (rets := none) (outs := []) (id := 0) (tbl := corbelhand_Bytes.T k) (an := corbelhand_Bytes.an k) (pb := 500) (corbelhand_Bytes.TS hX k) (fun n => (fun a h => corbelhand_Bytes.l0 k n (a.1) (a.2.1) (a.2.2.1) (a.2.2.2) h)) (fun a h => rfl) (fun n a h => by kernel_rfl)
    (by
      have e : need (corbelhand_Bytes.an k) corbelhand_Bytes.c250 500 = [] := by kernel_rfl
      rw [e]; intro q hq; cases hq) n
set_option maxRecDepth 100000 in
theorem corbelhand_Bytes.eq (k : Nat) (a : RT [(.int .i64), (.int .i64)]) (h : H) : (fun a h => corbelhand_Bytes.f k (a.1) (a.2) h) a h = kfun Try.prog (corbelhand_Bytes.T k) (corbelhand_Bytes.an k) (RT [.sl] × H) Try.f44 (encL [(.int .i64), (.int .i64)] a) h (fun vs h' => (decL [.sl] vs).bind fun x => some (x, h')) := by kernel_rfl
set_option maxRecDepth 100000 in
theorem corbelhand_Bytes.told {C : FuncId → Bool} {X : CallF} (hX : XOk C X) (k : Nat) : Den.Told Try.prog C X 44 [(.int .i64), (.int .i64)] [.sl] (fun a h => corbelhand_Bytes.f k (a.1) (a.2) h) :=
  told_of fun a h q e => fn_of (c := corbelhand_Bytes.body) (corbelhand_Bytes.TS hX k) Try.func44 (by kernel_rfl) (hX.no 44 _ h (by decide))
    (by
      have e : need (corbelhand_Bytes.an k) corbelhand_Bytes.body 1 = [(Code.loop corbelhand_Bytes.c250, lrun [(1, (.int .i64)), (5, .sl), (6, (.int .u64)), (7, (.int .i64))] none [] 0 (fun a h => corbelhand_Bytes.l0 k k (a.1) (a.2.1) (a.2.2.1) (a.2.2.2) h))] := by kernel_rfl
      rw [e]; intro q hq
      rcases List.mem_cons.1 hq with rfl | hq
      · exact corbelhand_Bytes.l0_pass hX k k
      cases hq)
    ((corbelhand_Bytes.eq k a h).symm.trans e)
/-! ### corbel/field.New -/
noncomputable def field_New.l0 (k : Nat) (n : Nat) : (Option Addr) → Int → Int → H → Option ((Unit) × H) :=
  Nat.rec (motive := fun _ => (Option Addr) → Int → Int → H → Option ((Unit) × H)) (fun _ _ _ _ => none) (fun _ ih x1 x2 x3 h4 => cond (decide (x3 < (255 : Int)))
      ((asP (nilA (Value.pointer x1))).bind fun p5 =>
    (asP (fadd 0 p5)).bind fun p6 =>
    (asP (ixs 1 p6 255 x3)).bind fun p7 =>
    (stv 1 h4 p7 [(Value.int .u8 (wrapA .u8 x2))]).bind fun q8 =>
    (asP (nilA (Value.pointer x1))).bind fun p9 =>
    (asP (fadd 255 p9)).bind fun p10 =>
    (asP (ixs 1 p10 256 x2)).bind fun p11 =>
    (stv 1 q8.2 p11 [(Value.int .i64 x3)]).bind fun q12 =>
    (cond (decide ((wrapA .i64 (x2 * 2 ^ 1)) > (255 : Int)))
      ((asI .i64 (intA .xor .i64 (wrapA .i64 (x2 * 2 ^ 1)) (285 : Int))).bind fun n13 =>
    some (n13, q12.2))
      (some (wrapA .i64 (x2 * 2 ^ 1), q12.2)) : Option ((Int) × H)).bind fun j14 =>
    ih x1 j14.1 (wrapA .i64 (x3 + (1 : Int))) j14.2)
      (some ((), h4))) n
theorem field_New.l0_zero (k : Nat) (x1 : Option Addr) (x2 : Int) (x3 : Int) (h4 : H) : field_New.l0 k 0 x1 x2 x3 h4 = none := rfl
theorem field_New.l0_succ (k n : Nat) (x1 : Option Addr) (x2 : Int) (x3 : Int) (h4 : H) : field_New.l0 k (n + 1) x1 x2 x3 h4 = (cond (decide (x3 < (255 : Int)))
      ((asP (nilA (Value.pointer x1))).bind fun p5 =>
    (asP (fadd 0 p5)).bind fun p6 =>
    (asP (ixs 1 p6 255 x3)).bind fun p7 =>
    (stv 1 h4 p7 [(Value.int .u8 (wrapA .u8 x2))]).bind fun q8 =>
    (asP (nilA (Value.pointer x1))).bind fun p9 =>
    (asP (fadd 255 p9)).bind fun p10 =>
    (asP (ixs 1 p10 256 x2)).bind fun p11 =>
    (stv 1 q8.2 p11 [(Value.int .i64 x3)]).bind fun q12 =>
    (cond (decide ((wrapA .i64 (x2 * 2 ^ 1)) > (255 : Int)))
      ((asI .i64 (intA .xor .i64 (wrapA .i64 (x2 * 2 ^ 1)) (285 : Int))).bind fun n13 =>
    some (n13, q12.2))
      (some (wrapA .i64 (x2 * 2 ^ 1), q12.2)) : Option ((Int) × H)).bind fun j14 =>
    field_New.l0 k n x1 j14.1 (wrapA .i64 (x3 + (1 : Int))) j14.2)
      (some ((), h4))) := rfl
noncomputable def field_New.f (k : Nat) (h : H) : Option ((Option Addr) × H) :=
  (field_New.l0 k k (some ⟨h.next, 0, none⟩) (1 : Int) (0 : Int) (newR h 72 511 [(Value.int .u8 (0 : Int)), (Value.int .u8 (0 : Int)), (Value.int .u8 (0 : Int)), (Value.int .u8 (0 : Int)), (Value.int .u8 (0 : Int)), (Value.int .u8 (0 : Int)), (Value.int .u8 (0 : Int)), (Value.int .u8 (0 : Int)), (Value.int .u8 (0 : Int)), (Value.int .u8 (0 : Int)), (Value.int .u8 (0 : Int)), (Value.int .u8 (0 : Int)), (Value.int .u8 (0 : Int)), (Value.int .u8 (0 : Int)), (Value.int .u8 (0 : Int)), (Value.int .u8 (0 : Int)), (Value.int .u8 (0 : Int)), (Value.int .u8 (0 : Int)), (Value.int .u8 (0 : Int)), (Value.int .u8 (0 : Int)), (Value.int .u8 (0 : Int)), (Value.int .u8 (0 : Int)), (Value.int .u8 (0 : Int)), (Value.int .u8 (0 : Int)), (Value.int .u8 (0 : Int)), (Value.int .u8 (0 : Int)), (Value.int .u8 (0 : Int)), (Value.int .u8 (0 : Int)), (Value.int .u8 (0 : Int)), (Value.int .u8 (0 : Int)), (Value.int .u8 (0 : Int)), (Value.int .u8 (0 : Int)), (Value.int .u8 (0 : Int)), (Value.int .u8 (0 : Int)), (Value.int .u8 (0 : Int)), (Value.int .u8 (0 : Int)), (Value.int .u8 (0 : Int)), (Value.int .u8 (0 : Int)), (Value.int .u8 (0 : Int)), (Value.int .u8 (0 : Int)), (Value.int .u8 (0 : Int)), (Value.int .u8 (0 : Int)), (Value.int .u8 (0 : Int)), (Value.int .u8 (0 : Int)), (Value.int .u8 (0 : Int)), (Value.int .u8 (0 : Int)), (Value.int .u8 (0 : Int)), (Value.int .u8 (0 : Int)), (Value.int .u8 (0 : Int)), (Value.int .u8 (0 : Int)), (Value.int .u8 (0 : Int)), (Value.int .u8 (0 : Int)), (Value.int .u8 (0 : Int)), (Value.int .u8 (0 : Int)), (Value.int .u8 (0 : Int)), (Value.int .u8 (0 : Int)), (Value.int .u8 (0 : Int)), (Value.int .u8 (0 : Int)), (Value.int .u8 (0 : Int)), (Value.int .u8 (0 : Int)), (Value.int .u8 (0 : Int)), (Value.int .u8 (0 : Int)), (Value.int .u8 (0 : Int)), (Value.int .u8 (0 : Int)), (Value.int .u8 (0 : Int)), (Value.int .u8 (0 : Int)), (Value.int .u8 (0 : Int)), (Value.int .u8 (0 : Int)), (Value.int .u8 (0 : Int)), (Value.int .u8 (0 : Int)), (Value.int .u8 (0 : Int)), (Value.int .u8 (0 : Int)), (Value.int .u8 (0 : Int)), (Value.int .u8 (0 : Int)), (Value.int .u8 (0 : Int)), (Value.int .u8 (0 : Int)), (Value.int .u8 (0 : Int)), (Value.int .u8 (0 : Int)), (Value.int .u8 (0 : Int)), (Value.int .u8 (0 : Int)), (Value.int .u8 (0 : Int)), (Value.int .u8 (0 : Int)), (Value.int .u8 (0 : Int)), (Value.int .u8 (0 : Int)), (Value.int .u8 (0 : Int)), (Value.int .u8 (0 : Int)), (Value.int .u8 (0 : Int)), (Value.int .u8 (0 : Int)), (Value.int .u8 (0 : Int)), (Value.int .u8 (0 : Int)), (Value.int .u8 (0 : Int)), (Value.int .u8 (0 : Int)), (Value.int .u8 (0 : Int)), (Value.int .u8 (0 : Int)), (Value.int .u8 (0 : Int)), (Value.int .u8 (0 : Int)), (Value.int .u8 (0 : Int)), (Value.int .u8 (0 : Int)), (Value.int .u8 (0 : Int)), (Value.int .u8 (0 : Int)), (Value.int .u8 (0 : Int)), (Value.int .u8 (0 : Int)), (Value.int .u8 (0 : Int)), (Value.int .u8 (0 : Int)), (Value.int .u8 (0 : Int)), (Value.int .u8 (0 : Int)), (Value.int .u8 (0 : Int)), (Value.int .u8 (0 : Int)), (Value.int .u8 (0 : Int)), (Value.int .u8 (0 : Int)), (Value.int .u8 (0 : Int)), (Value.int .u8 (0 : Int)), (Value.int .u8 (0 : Int)), (Value.int .u8 (0 : Int)), (Value.int .u8 (0 : Int)), (Value.int .u8 (0 : Int)), (Value.int .u8 (0 : Int)), (Value.int .u8 (0 : Int)), (Value.int .u8 (0 : Int)), (Value.int .u8 (0 : Int)), (Value.int .u8 (0 : Int)), (Value.int .u8 (0 : Int)), (Value.int .u8 (0 : Int)), (Value.int .u8 (0 : Int)), (Value.int .u8 (0 : Int)), (Value.int .u8 (0 : Int)), (Value.int .u8 (0 : Int)), (Value.int .u8 (0 : Int)), (Value.int .u8 (0 : Int)), (Value.int .u8 (0 : Int)), (Value.int .u8 (0 : Int)), (Value.int .u8 (0 : Int)), (Value.int .u8 (0 : Int)), (Value.int .u8 (0 : Int)), (Value.int .u8 (0 : Int)), (Value.int .u8 (0 : Int)), (Value.int .u8 (0 : Int)), (Value.int .u8 (0 : Int)), (Value.int .u8 (0 : Int)), (Value.int .u8 (0 : Int)), (Value.int .u8 (0 : Int)), (Value.int .u8 (0 : Int)), (Value.int .u8 (0 : Int)), (Value.int .u8 (0 : Int)), (Value.int .u8 (0 : Int)), (Value.int .u8 (0 : Int)), (Value.int .u8 (0 : Int)), (Value.int .u8 (0 : Int)), (Value.int .u8 (0 : Int)), (Value.int .u8 (0 : Int)), (Value.int .u8 (0 : Int)), (Value.int .u8 (0 : Int)), (Value.int .u8 (0 : Int)), (Value.int .u8 (0 : Int)), (Value.int .u8 (0 : Int)), (Value.int .u8 (0 : Int)), (Value.int .u8 (0 : Int)), (Value.int .u8 (0 : Int)), (Value.int .u8 (0 : Int)), (Value.int .u8 (0 : Int)), (Value.int .u8 (0 : Int)), (Value.int .u8 (0 : Int)), (Value.int .u8 (0 : Int)), (Value.int .u8 (0 : Int)), (Value.int .u8 (0 : Int)), (Value.int .u8 (0 : Int)), (Value.int .u8 (0 : Int)), (Value.int .u8 (0 : Int)), (Value.int .u8 (0 : Int)), (Value.int .u8 (0 : Int)), (Value.int .u8 (0 : Int)), (Value.int .u8 (0 : Int)), (Value.int .u8 (0 : Int)), (Value.int .u8 (0 : Int)), (Value.int .u8 (0 : Int)), (Value.int .u8 (0 : Int)), (Value.int .u8 (0 : Int)), (Value.int .u8 (0 : Int)), (Value.int .u8 (0 : Int)), (Value.int .u8 (0 : Int)), (Value.int .u8 (0 : Int)), (Value.int .u8 (0 : Int)), (Value.int .u8 (0 : Int)), (Value.int .u8 (0 : Int)), (Value.int .u8 (0 : Int)), (Value.int .u8 (0 : Int)), (Value.int .u8 (0 : Int)), (Value.int .u8 (0 : Int)), (Value.int .u8 (0 : Int)), (Value.int .u8 (0 : Int)), (Value.int .u8 (0 : Int)), (Value.int .u8 (0 : Int)), (Value.int .u8 (0 : Int)), (Value.int .u8 (0 : Int)), (Value.int .u8 (0 : Int)), (Value.int .u8 (0 : Int)), (Value.int .u8 (0 : Int)), (Value.int .u8 (0 : Int)), (Value.int .u8 (0 : Int)), (Value.int .u8 (0 : Int)), (Value.int .u8 (0 : Int)), (Value.int .u8 (0 : Int)), (Value.int .u8 (0 : Int)), (Value.int .u8 (0 : Int)), (Value.int .u8 (0 : Int)), (Value.int .u8 (0 : Int)), (Value.int .u8 (0 : Int)), (Value.int .u8 (0 : Int)), (Value.int .u8 (0 : Int)), (Value.int .u8 (0 : Int)), (Value.int .u8 (0 : Int)), (Value.int .u8 (0 : Int)), (Value.int .u8 (0 : Int)), (Value.int .u8 (0 : Int)), (Value.int .u8 (0 : Int)), (Value.int .u8 (0 : Int)), (Value.int .u8 (0 : Int)), (Value.int .u8 (0 : Int)), (Value.int .u8 (0 : Int)), (Value.int .u8 (0 : Int)), (Value.int .u8 (0 : Int)), (Value.int .u8 (0 : Int)), (Value.int .u8 (0 : Int)), (Value.int .u8 (0 : Int)), (Value.int .u8 (0 : Int)), (Value.int .u8 (0 : Int)), (Value.int .u8 (0 : Int)), (Value.int .u8 (0 : Int)), (Value.int .u8 (0 : Int)), (Value.int .u8 (0 : Int)), (Value.int .u8 (0 : Int)), (Value.int .u8 (0 : Int)), (Value.int .u8 (0 : Int)), (Value.int .u8 (0 : Int)), (Value.int .u8 (0 : Int)), (Value.int .u8 (0 : Int)), (Value.int .u8 (0 : Int)), (Value.int .u8 (0 : Int)), (Value.int .u8 (0 : Int)), (Value.int .u8 (0 : Int)), (Value.int .u8 (0 : Int)), (Value.int .u8 (0 : Int)), (Value.int .u8 (0 : Int)), (Value.int .u8 (0 : Int)), (Value.int .u8 (0 : Int)), (Value.int .u8 (0 : Int)), (Value.int .u8 (0 : Int)), (Value.int .u8 (0 : Int)), (Value.int .u8 (0 : Int)), (Value.int .u8 (0 : Int)), (Value.int .u8 (0 : Int)), (Value.int .u8 (0 : Int)), (Value.int .u8 (0 : Int)), (Value.int .u8 (0 : Int)), (Value.int .u8 (0 : Int)), (Value.int .i64 (0 : Int)), (Value.int .i64 (0 : Int)), (Value.int .i64 (0 : Int)), (Value.int .i64 (0 : Int)), (Value.int .i64 (0 : Int)), (Value.int .i64 (0 : Int)), (Value.int .i64 (0 : Int)), (Value.int .i64 (0 : Int)), (Value.int .i64 (0 : Int)), (Value.int .i64 (0 : Int)), (Value.int .i64 (0 : Int)), (Value.int .i64 (0 : Int)), (Value.int .i64 (0 : Int)), (Value.int .i64 (0 : Int)), (Value.int .i64 (0 : Int)), (Value.int .i64 (0 : Int)), (Value.int .i64 (0 : Int)), (Value.int .i64 (0 : Int)), (Value.int .i64 (0 : Int)), (Value.int .i64 (0 : Int)), (Value.int .i64 (0 : Int)), (Value.int .i64 (0 : Int)), (Value.int .i64 (0 : Int)), (Value.int .i64 (0 : Int)), (Value.int .i64 (0 : Int)), (Value.int .i64 (0 : Int)), (Value.int .i64 (0 : Int)), (Value.int .i64 (0 : Int)), (Value.int .i64 (0 : Int)), (Value.int .i64 (0 : Int)), (Value.int .i64 (0 : Int)), (Value.int .i64 (0 : Int)), (Value.int .i64 (0 : Int)), (Value.int .i64 (0 : Int)), (Value.int .i64 (0 : Int)), (Value.int .i64 (0 : Int)), (Value.int .i64 (0 : Int)), (Value.int .i64 (0 : Int)), (Value.int .i64 (0 : Int)), (Value.int .i64 (0 : Int)), (Value.int .i64 (0 : Int)), (Value.int .i64 (0 : Int)), (Value.int .i64 (0 : Int)), (Value.int .i64 (0 : Int)), (Value.int .i64 (0 : Int)), (Value.int .i64 (0 : Int)), (Value.int .i64 (0 : Int)), (Value.int .i64 (0 : Int)), (Value.int .i64 (0 : Int)), (Value.int .i64 (0 : Int)), (Value.int .i64 (0 : Int)), (Value.int .i64 (0 : Int)), (Value.int .i64 (0 : Int)), (Value.int .i64 (0 : Int)), (Value.int .i64 (0 : Int)), (Value.int .i64 (0 : Int)), (Value.int .i64 (0 : Int)), (Value.int .i64 (0 : Int)), (Value.int .i64 (0 : Int)), (Value.int .i64 (0 : Int)), (Value.int .i64 (0 : Int)), (Value.int .i64 (0 : Int)), (Value.int .i64 (0 : Int)), (Value.int .i64 (0 : Int)), (Value.int .i64 (0 : Int)), (Value.int .i64 (0 : Int)), (Value.int .i64 (0 : Int)), (Value.int .i64 (0 : Int)), (Value.int .i64 (0 : Int)), (Value.int .i64 (0 : Int)), (Value.int .i64 (0 : Int)), (Value.int .i64 (0 : Int)), (Value.int .i64 (0 : Int)), (Value.int .i64 (0 : Int)), (Value.int .i64 (0 : Int)), (Value.int .i64 (0 : Int)), (Value.int .i64 (0 : Int)), (Value.int .i64 (0 : Int)), (Value.int .i64 (0 : Int)), (Value.int .i64 (0 : Int)), (Value.int .i64 (0 : Int)), (Value.int .i64 (0 : Int)), (Value.int .i64 (0 : Int)), (Value.int .i64 (0 : Int)), (Value.int .i64 (0 : Int)), (Value.int .i64 (0 : Int)), (Value.int .i64 (0 : Int)), (Value.int .i64 (0 : Int)), (Value.int .i64 (0 : Int)), (Value.int .i64 (0 : Int)), (Value.int .i64 (0 : Int)), (Value.int .i64 (0 : Int)), (Value.int .i64 (0 : Int)), (Value.int .i64 (0 : Int)), (Value.int .i64 (0 : Int)), (Value.int .i64 (0 : Int)), (Value.int .i64 (0 : Int)), (Value.int .i64 (0 : Int)), (Value.int .i64 (0 : Int)), (Value.int .i64 (0 : Int)), (Value.int .i64 (0 : Int)), (Value.int .i64 (0 : Int)), (Value.int .i64 (0 : Int)), (Value.int .i64 (0 : Int)), (Value.int .i64 (0 : Int)), (Value.int .i64 (0 : Int)), (Value.int .i64 (0 : Int)), (Value.int .i64 (0 : Int)), (Value.int .i64 (0 : Int)), (Value.int .i64 (0 : Int)), (Value.int .i64 (0 : Int)), (Value.int .i64 (0 : Int)), (Value.int .i64 (0 : Int)), (Value.int .i64 (0 : Int)), (Value.int .i64 (0 : Int)), (Value.int .i64 (0 : Int)), (Value.int .i64 (0 : Int)), (Value.int .i64 (0 : Int)), (Value.int .i64 (0 : Int)), (Value.int .i64 (0 : Int)), (Value.int .i64 (0 : Int)), (Value.int .i64 (0 : Int)), (Value.int .i64 (0 : Int)), (Value.int .i64 (0 : Int)), (Value.int .i64 (0 : Int)), (Value.int .i64 (0 : Int)), (Value.int .i64 (0 : Int)), (Value.int .i64 (0 : Int)), (Value.int .i64 (0 : Int)), (Value.int .i64 (0 : Int)), (Value.int .i64 (0 : Int)), (Value.int .i64 (0 : Int)), (Value.int .i64 (0 : Int)), (Value.int .i64 (0 : Int)), (Value.int .i64 (0 : Int)), (Value.int .i64 (0 : Int)), (Value.int .i64 (0 : Int)), (Value.int .i64 (0 : Int)), (Value.int .i64 (0 : Int)), (Value.int .i64 (0 : Int)), (Value.int .i64 (0 : Int)), (Value.int .i64 (0 : Int)), (Value.int .i64 (0 : Int)), (Value.int .i64 (0 : Int)), (Value.int .i64 (0 : Int)), (Value.int .i64 (0 : Int)), (Value.int .i64 (0 : Int)), (Value.int .i64 (0 : Int)), (Value.int .i64 (0 : Int)), (Value.int .i64 (0 : Int)), (Value.int .i64 (0 : Int)), (Value.int .i64 (0 : Int)), (Value.int .i64 (0 : Int)), (Value.int .i64 (0 : Int)), (Value.int .i64 (0 : Int)), (Value.int .i64 (0 : Int)), (Value.int .i64 (0 : Int)), (Value.int .i64 (0 : Int)), (Value.int .i64 (0 : Int)), (Value.int .i64 (0 : Int)), (Value.int .i64 (0 : Int)), (Value.int .i64 (0 : Int)), (Value.int .i64 (0 : Int)), (Value.int .i64 (0 : Int)), (Value.int .i64 (0 : Int)), (Value.int .i64 (0 : Int)), (Value.int .i64 (0 : Int)), (Value.int .i64 (0 : Int)), (Value.int .i64 (0 : Int)), (Value.int .i64 (0 : Int)), (Value.int .i64 (0 : Int)), (Value.int .i64 (0 : Int)), (Value.int .i64 (0 : Int)), (Value.int .i64 (0 : Int)), (Value.int .i64 (0 : Int)), (Value.int .i64 (0 : Int)), (Value.int .i64 (0 : Int)), (Value.int .i64 (0 : Int)), (Value.int .i64 (0 : Int)), (Value.int .i64 (0 : Int)), (Value.int .i64 (0 : Int)), (Value.int .i64 (0 : Int)), (Value.int .i64 (0 : Int)), (Value.int .i64 (0 : Int)), (Value.int .i64 (0 : Int)), (Value.int .i64 (0 : Int)), (Value.int .i64 (0 : Int)), (Value.int .i64 (0 : Int)), (Value.int .i64 (0 : Int)), (Value.int .i64 (0 : Int)), (Value.int .i64 (0 : Int)), (Value.int .i64 (0 : Int)), (Value.int .i64 (0 : Int)), (Value.int .i64 (0 : Int)), (Value.int .i64 (0 : Int)), (Value.int .i64 (0 : Int)), (Value.int .i64 (0 : Int)), (Value.int .i64 (0 : Int)), (Value.int .i64 (0 : Int)), (Value.int .i64 (0 : Int)), (Value.int .i64 (0 : Int)), (Value.int .i64 (0 : Int)), (Value.int .i64 (0 : Int)), (Value.int .i64 (0 : Int)), (Value.int .i64 (0 : Int)), (Value.int .i64 (0 : Int)), (Value.int .i64 (0 : Int)), (Value.int .i64 (0 : Int)), (Value.int .i64 (0 : Int)), (Value.int .i64 (0 : Int)), (Value.int .i64 (0 : Int)), (Value.int .i64 (0 : Int)), (Value.int .i64 (0 : Int)), (Value.int .i64 (0 : Int)), (Value.int .i64 (0 : Int)), (Value.int .i64 (0 : Int)), (Value.int .i64 (0 : Int)), (Value.int .i64 (0 : Int)), (Value.int .i64 (0 : Int)), (Value.int .i64 (0 : Int)), (Value.int .i64 (0 : Int)), (Value.int .i64 (0 : Int)), (Value.int .i64 (0 : Int)), (Value.int .i64 (0 : Int)), (Value.int .i64 (0 : Int)), (Value.int .i64 (0 : Int)), (Value.int .i64 (0 : Int)), (Value.int .i64 (0 : Int)), (Value.int .i64 (0 : Int)), (Value.int .i64 (0 : Int)), (Value.int .i64 (0 : Int)), (Value.int .i64 (0 : Int)), (Value.int .i64 (0 : Int)), (Value.int .i64 (0 : Int)), (Value.int .i64 (0 : Int)), (Value.int .i64 (0 : Int)), (Value.int .i64 (0 : Int)), (Value.int .i64 (0 : Int)), (Value.int .i64 (0 : Int)), (Value.int .i64 (0 : Int)), (Value.int .i64 (0 : Int)), (Value.int .i64 (0 : Int)), (Value.int .i64 (0 : Int)), (Value.int .i64 (0 : Int)), (Value.int .i64 (0 : Int)), (Value.int .i64 (0 : Int)), (Value.int .i64 (0 : Int)), (Value.int .i64 (0 : Int)), (Value.int .i64 (0 : Int)), (Value.int .i64 (0 : Int)), (Value.int .i64 (0 : Int)), (Value.int .i64 (0 : Int)), (Value.int .i64 (0 : Int)), (Value.int .i64 (0 : Int)), (Value.int .i64 (0 : Int)), (Value.int .i64 (0 : Int))])).bind fun w15 =>
    some ((some ⟨h.next, 0, none⟩), w15.2)
noncomputable def field_New.T (k : Nat) : Tbl := tblOf []
noncomputable def field_New.an (k : Nat) (p : Nat) : Option Ann := cond (Nat.beq p 122) (some (.pass [1] (lrun [(1, .ptr), (2, (.int .i64)), (6, (.int .i64))] none [] 0 (fun a h => field_New.l0 k k (a.1) (a.2.1) (a.2.2) h))))
  (cond (Nat.beq p 62671) (some (.join [1, 6] none [(2, (.int .i64))]))
  (none))
noncomputable def field_New.body : Code := (Try.f18.body).getD .skip
noncomputable def field_New.c122 : Code := cat field_New.body [1, 1, 1, 0, 1, 0, 0]
set_option maxRecDepth 100000 in
theorem field_New.TS {C : FuncId → Bool} {X : CallF} (hX : XOk C X) (k : Nat) : TblS Try.prog C X (field_New.T k) := by
  refine tblOf_sound ?_
  intro e he
  exact absurd he List.not_mem_nil
set_option maxRecDepth 100000 in
theorem field_New.l0_pass {C : FuncId → Bool} {X : CallF} (hX : XOk C X) (k n : Nat) : PassS Try.prog C X 30 (.loop field_New.c122) (lrun [(1, .ptr), (2, (.int .i64)), (6, (.int .i64))] none [] 0 (fun a h => field_New.l0 k n (a.1) (a.2.1) (a.2.2) h)) :=
  loop_pass (ins := [(1, .ptr), (2, (.int .i64)), (6, (.int .i64))]) (rets := none) (outs := []) (id := 0) (tbl := field_New.T k) (an := field_New.an k) (pb := 244) (field_New.TS hX k) (fun n => (fun a h => field_New.l0 k n (a.1) (a.2.1) (a.2.2) h)) (fun a h => rfl) (fun n a h => by kernel_rfl)
    (by
      have e : need (field_New.an k) field_New.c122 244 = [] := by kernel_rfl
      rw [e]; intro q hq; cases hq) n
set_option maxRecDepth 100000 in
theorem field_New.eq (k : Nat) (a : RT []) (h : H) : (fun a h => field_New.f k h) a h = kfun Try.prog (field_New.T k) (field_New.an k) (RT [.ptr] × H) Try.f18 (encL [] a) h (fun vs h' => (decL [.ptr] vs).bind fun x => some (x, h')) := by kernel_rfl
set_option maxRecDepth 100000 in
theorem field_New.told {C : FuncId → Bool} {X : CallF} (hX : XOk C X) (k : Nat) : Den.Told Try.prog C X 18 [] [.ptr] (fun a h => field_New.f k h) :=
  told_of fun a h q e => fn_of (c := field_New.body) (field_New.TS hX k) Try.func18 (by kernel_rfl) (hX.no 18 _ h (by decide))
    (by
      have e : need (field_New.an k) field_New.body 1 = [(Code.loop field_New.c122, lrun [(1, .ptr), (2, (.int .i64)), (6, (.int .i64))] none [] 0 (fun a h => field_New.l0 k k (a.1) (a.2.1) (a.2.2) h))] := by kernel_rfl
      rw [e]; intro q hq
      rcases List.mem_cons.1 hq with rfl | hq
      · exact field_New.l0_pass hX k k
      cases hq)
    ((field_New.eq k a h).symm.trans e)
/-! ### (*corbel/field.Field).Add -/
noncomputable def field_Field_Add.f (k : Nat) (a0 : Option Addr) (a1 : Int) (a2 : Int) (h : H) : Option ((Int) × H) :=
  (asI .u8 (intA .xor .u8 a1 a2)).bind fun n1 =>
    some (n1, h)
noncomputable def field_Field_Add.T (k : Nat) : Tbl := tblOf []
noncomputable def field_Field_Add.an (k : Nat) (p : Nat) : Option Ann := none
noncomputable def field_Field_Add.body : Code := (Try.f28.body).getD .skip
set_option maxRecDepth 100000 in
theorem field_Field_Add.TS {C : FuncId → Bool} {X : CallF} (hX : XOk C X) (k : Nat) : TblS Try.prog C X (field_Field_Add.T k) := by
  refine tblOf_sound ?_
  intro e he
  exact absurd he List.not_mem_nil
set_option maxRecDepth 100000 in
theorem field_Field_Add.eq (k : Nat) (a : RT [.ptr, (.int .u8), (.int .u8)]) (h : H) : (fun a h => field_Field_Add.f k (a.1) (a.2.1) (a.2.2) h) a h = kfun Try.prog (field_Field_Add.T k) (field_Field_Add.an k) (RT [(.int .u8)] × H) Try.f28 (encL [.ptr, (.int .u8), (.int .u8)] a) h (fun vs h' => (decL [(.int .u8)] vs).bind fun x => some (x, h')) := by kernel_rfl
set_option maxRecDepth 100000 in
theorem field_Field_Add.told {C : FuncId → Bool} {X : CallF} (hX : XOk C X) (k : Nat) : Den.Told Try.prog C X 28 [.ptr, (.int .u8), (.int .u8)] [(.int .u8)] (fun a h => field_Field_Add.f k (a.1) (a.2.1) (a.2.2) h) :=
  told_of fun a h q e => fn_of (c := field_Field_Add.body) (field_Field_Add.TS hX k) Try.func28 (by kernel_rfl) (hX.no 28 _ h (by decide))
    (by
      have e : need (field_Field_Add.an k) field_Field_Add.body 1 = [] := by kernel_rfl
      rw [e]; intro q hq; cases hq)
    ((field_Field_Add.eq k a h).symm.trans e)
/-! ### (*corbel/field.Field).Mul -/
noncomputable def field_Field_Mul.f (k : Nat) (a0 : Option Addr) (a1 : Int) (a2 : Int) (h : H) : Option ((Int) × H) :=
  (cond (a1 == (0 : Int)) (some (true, h))
      (some (a2 == (0 : Int), h))).bind fun g1 =>
    cond g1.1
      (some ((0 : Int), g1.2))
      ((asP (nilA (Value.pointer a0))).bind fun p2 =>
    (asP (fadd 255 p2)).bind fun p3 =>
    (asP (ixs 1 p3 256 a1)).bind fun p4 =>
    (asI .i64 (ldc g1.2 p4)).bind fun n5 =>
    (asP (nilA (Value.pointer a0))).bind fun p6 =>
    (asP (fadd 255 p6)).bind fun p7 =>
    (asP (ixs 1 p7 256 a2)).bind fun p8 =>
    (asI .i64 (ldc g1.2 p8)).bind fun n9 =>
    (asP (nilA (Value.pointer a0))).bind fun p10 =>
    (asP (fadd 0 p10)).bind fun p11 =>
    (asP (ixs 1 p11 255 ((wrapA .i64 (n5 + n9)).tmod (255 : Int)))).bind fun p12 =>
    (asI .u8 (ldc g1.2 p12)).bind fun n13 =>
    some (n13, g1.2))
noncomputable def field_Field_Mul.T (k : Nat) : Tbl := tblOf []
noncomputable def field_Field_Mul.an (k : Nat) (p : Nat) : Option Ann := none
noncomputable def field_Field_Mul.body : Code := (Try.f21.body).getD .skip
set_option maxRecDepth 100000 in
theorem field_Field_Mul.TS {C : FuncId → Bool} {X : CallF} (hX : XOk C X) (k : Nat) : TblS Try.prog C X (field_Field_Mul.T k) := by
  refine tblOf_sound ?_
  intro e he
  exact absurd he List.not_mem_nil
set_option maxRecDepth 100000 in
theorem field_Field_Mul.eq (k : Nat) (a : RT [.ptr, (.int .u8), (.int .u8)]) (h : H) : (fun a h => field_Field_Mul.f k (a.1) (a.2.1) (a.2.2) h) a h = kfun Try.prog (field_Field_Mul.T k) (field_Field_Mul.an k) (RT [(.int .u8)] × H) Try.f21 (encL [.ptr, (.int .u8), (.int .u8)] a) h (fun vs h' => (decL [(.int .u8)] vs).bind fun x => some (x, h')) := by kernel_rfl
set_option maxRecDepth 100000 in
theorem field_Field_Mul.told {C : FuncId → Bool} {X : CallF} (hX : XOk C X) (k : Nat) : Den.Told Try.prog C X 21 [.ptr, (.int .u8), (.int .u8)] [(.int .u8)] (fun a h => field_Field_Mul.f k (a.1) (a.2.1) (a.2.2) h) :=
  told_of fun a h q e => fn_of (c := field_Field_Mul.body) (field_Field_Mul.TS hX k) Try.func21 (by kernel_rfl) (hX.no 21 _ h (by decide))
    (by
      have e : need (field_Field_Mul.an k) field_Field_Mul.body 1 = [] := by kernel_rfl
      rw [e]; intro q hq; cases hq)
    ((field_Field_Mul.eq k a h).symm.trans e)
/-! ### (*corbel/field.Field).Inv -/
noncomputable def field_Field_Inv.f (k : Nat) (a0 : Option Addr) (a1 : Int) (h : H) : Option ((Int × Bool) × H) :=
  cond (a1 == (0 : Int))
      (some (((0 : Int), false), h))
      ((asP (nilA (Value.pointer a0))).bind fun p1 =>
    (asP (fadd 255 p1)).bind fun p2 =>
    (asP (ixs 1 p2 256 a1)).bind fun p3 =>
    (asI .i64 (ldc h p3)).bind fun n4 =>
    (asP (nilA (Value.pointer a0))).bind fun p5 =>
    (asP (fadd 0 p5)).bind fun p6 =>
    (asP (ixs 1 p6 255 ((wrapA .i64 ((255 : Int) - n4)).tmod (255 : Int)))).bind fun p7 =>
    (asI .u8 (ldc h p7)).bind fun n8 =>
    some ((n8, true), h))
noncomputable def field_Field_Inv.T (k : Nat) : Tbl := tblOf []
noncomputable def field_Field_Inv.an (k : Nat) (p : Nat) : Option Ann := none
noncomputable def field_Field_Inv.body : Code := (Try.f22.body).getD .skip
set_option maxRecDepth 100000 in
theorem field_Field_Inv.TS {C : FuncId → Bool} {X : CallF} (hX : XOk C X) (k : Nat) : TblS Try.prog C X (field_Field_Inv.T k) := by
  refine tblOf_sound ?_
  intro e he
  exact absurd he List.not_mem_nil
set_option maxRecDepth 100000 in
theorem field_Field_Inv.eq (k : Nat) (a : RT [.ptr, (.int .u8)]) (h : H) : (fun a h => field_Field_Inv.f k (a.1) (a.2) h) a h = kfun Try.prog (field_Field_Inv.T k) (field_Field_Inv.an k) (RT [(.int .u8), .bool] × H) Try.f22 (encL [.ptr, (.int .u8)] a) h (fun vs h' => (decL [(.int .u8), .bool] vs).bind fun x => some (x, h')) := by kernel_rfl
set_option maxRecDepth 100000 in
theorem field_Field_Inv.told {C : FuncId → Bool} {X : CallF} (hX : XOk C X) (k : Nat) : Den.Told Try.prog C X 22 [.ptr, (.int .u8)] [(.int .u8), .bool] (fun a h => field_Field_Inv.f k (a.1) (a.2) h) :=
  told_of fun a h q e => fn_of (c := field_Field_Inv.body) (field_Field_Inv.TS hX k) Try.func22 (by kernel_rfl) (hX.no 22 _ h (by decide))
    (by
      have e : need (field_Field_Inv.an k) field_Field_Inv.body 1 = [] := by kernel_rfl
      rw [e]; intro q hq; cases hq)
    ((field_Field_Inv.eq k a h).symm.trans e)
/-! ### corbel/matrix.Identity -/
noncomputable def matrix_Identity.l0 (k : Nat) (n : Nat) : Int → Sl → Int → Int → H → Option ((Unit) × H) :=
  Nat.rec (motive := fun _ => Int → Sl → Int → Int → H → Option ((Unit) × H)) (fun _ _ _ _ _ => none) (fun _ ih x3 x4 x5 x6 h7 => cond (decide (x6 < x5))
      ((asS2 (mkz 5 1 1 [(Value.int .u8 (0 : Int))] x3 x3 h7)).bind fun q8 =>
    (asP (ixs 1 x4.a x4.n x6)).bind fun p9 =>
    (stv 1 q8.2 p9 [(Value.slice q8.1.a q8.1.n q8.1.c)]).bind fun q10 =>
    (asP (ixs 1 x4.a x4.n x6)).bind fun p11 =>
    (asS (ldc q10.2 p11)).bind fun s12 =>
    (asP (ixs 1 s12.a s12.n x6)).bind fun p13 =>
    (stv 1 q10.2 p13 [(Value.int .u8 (1 : Int))]).bind fun q14 =>
    ih x3 x4 x5 (wrapA .i64 (x6 + (1 : Int))) q14.2)
      (some ((), h7))) n
theorem matrix_Identity.l0_zero (k : Nat) (x3 : Int) (x4 : Sl) (x5 : Int) (x6 : Int) (h7 : H) : matrix_Identity.l0 k 0 x3 x4 x5 x6 h7 = none := rfl
theorem matrix_Identity.l0_succ (k n : Nat) (x3 : Int) (x4 : Sl) (x5 : Int) (x6 : Int) (h7 : H) : matrix_Identity.l0 k (n + 1) x3 x4 x5 x6 h7 = (cond (decide (x6 < x5))
      ((asS2 (mkz 5 1 1 [(Value.int .u8 (0 : Int))] x3 x3 h7)).bind fun q8 =>
    (asP (ixs 1 x4.a x4.n x6)).bind fun p9 =>
    (stv 1 q8.2 p9 [(Value.slice q8.1.a q8.1.n q8.1.c)]).bind fun q10 =>
    (asP (ixs 1 x4.a x4.n x6)).bind fun p11 =>
    (asS (ldc q10.2 p11)).bind fun s12 =>
    (asP (ixs 1 s12.a s12.n x6)).bind fun p13 =>
    (stv 1 q10.2 p13 [(Value.int .u8 (1 : Int))]).bind fun q14 =>
    matrix_Identity.l0 k n x3 x4 x5 (wrapA .i64 (x6 + (1 : Int))) q14.2)
      (some ((), h7))) := rfl
noncomputable def matrix_Identity.f (k : Nat) (a0 : Int) (h : H) : Option ((Sl) × H) :=
  (cond (decide (a0 < (1 : Int))) (some (true, h))
      (some (decide (a0 > (64 : Int)), h))).bind fun g1 =>
    cond g1.1
      (some ((⟨none, 0, 0⟩ : Sl), g1.2))
      ((asS2 (mkz 40 1 24 [(Value.slice none 0 0)] a0 a0 g1.2)).bind fun q2 =>
    (matrix_Identity.l0 k k a0 q2.1 (Int.ofNat q2.1.n) (0 : Int) q2.2).bind fun w15 =>
    some (q2.1, w15.2))
noncomputable def matrix_Identity.T (k : Nat) : Tbl := tblOf []
noncomputable def matrix_Identity.an (k : Nat) (p : Nat) : Option Ann := cond (Nat.beq p 122) (some (.pass [3] (lrun [(0, (.int .i64)), (3, .sl), (14, (.int .i64)), (15, (.int .i64))] none [] 0 (fun a h => matrix_Identity.l0 k k (a.1) (a.2.1) (a.2.2.1) (a.2.2.2) h))))
  (none)
noncomputable def matrix_Identity.body : Code := (Try.f33.body).getD .skip
noncomputable def matrix_Identity.c122 : Code := cat matrix_Identity.body [1, 1, 1, 0, 1, 0, 0]
set_option maxRecDepth 100000 in
theorem matrix_Identity.TS {C : FuncId → Bool} {X : CallF} (hX : XOk C X) (k : Nat) : TblS Try.prog C X (matrix_Identity.T k) := by
  refine tblOf_sound ?_
  intro e he
  exact absurd he List.not_mem_nil
set_option maxRecDepth 100000 in
theorem matrix_Identity.l0_pass {C : FuncId → Bool} {X : CallF} (hX : XOk C X) (k n : Nat) : PassS Try.prog C X 31 (.loop matrix_Identity.c122) (lrun [(0, (.int .i64)), (3, .sl), (14, (.int .i64)), (15, (.int .i64))] none [] 0 (fun a h => matrix_Identity.l0 k n (a.1) (a.2.1) (a.2.2.1) (a.2.2.2) h)) :=
  loop_pass (ins := [(0, (.int .i64)), (3, .sl), (14, (.int .i64)), (15, (.int .i64))]) (rets := none) (outs := []) (id := 0) (tbl := matrix_Identity.T k) (an := matrix_Identity.an k) (pb := 244) (matrix_Identity.TS hX k) (fun n => (fun a h => matrix_Identity.l0 k n (a.1) (a.2.1) (a.2.2.1) (a.2.2.2) h)) (fun a h => rfl) (fun n a h => by kernel_rfl)
    (by
      have e : need (matrix_Identity.an k) matrix_Identity.c122 244 = [] := by kernel_rfl
      rw [e]; intro q hq; cases hq) n
set_option maxRecDepth 100000 in
theorem matrix_Identity.eq (k : Nat) (a : RT [(.int .i64)]) (h : H) : (fun a h => matrix_Identity.f k a h) a h = kfun Try.prog (matrix_Identity.T k) (matrix_Identity.an k) (RT [.sl] × H) Try.f33 (encL [(.int .i64)] a) h (fun vs h' => (decL [.sl] vs).bind fun x => some (x, h')) := by kernel_rfl
set_option maxRecDepth 100000 in
theorem matrix_Identity.told {C : FuncId → Bool} {X : CallF} (hX : XOk C X) (k : Nat) : Den.Told Try.prog C X 33 [(.int .i64)] [.sl] (fun a h => matrix_Identity.f k a h) :=
  told_of fun a h q e => fn_of (c := matrix_Identity.body) (matrix_Identity.TS hX k) Try.func33 (by kernel_rfl) (hX.no 33 _ h (by decide))
    (by
      have e : need (matrix_Identity.an k) matrix_Identity.body 1 = [(Code.loop matrix_Identity.c122, lrun [(0, (.int .i64)), (3, .sl), (14, (.int .i64)), (15, (.int .i64))] none [] 0 (fun a h => matrix_Identity.l0 k k (a.1) (a.2.1) (a.2.2.1) (a.2.2.2) h))] := by kernel_rfl
      rw [e]; intro q hq
      rcases List.mem_cons.1 hq with rfl | hq
      · exact matrix_Identity.l0_pass hX k k
      cases hq)
    ((matrix_Identity.eq k a h).symm.trans e)
/-! ### corbel/matrix.Right$1 -/
noncomputable def matrix_Right_1.f (k : Nat) (a0 : Sl) (a1 : Option Addr) (h : H) : Option ((Bool) × H) :=
  (asS (ldc h a1)).bind fun s1 =>
    (asP (ixs 1 s1.a s1.n (0 : Int))).bind fun p2 =>
    (asS (ldc h p2)).bind fun s3 =>
    some ((Int.ofNat a0.n) != (Int.ofNat s3.n), h)
noncomputable def matrix_Right_1.T (k : Nat) : Tbl := tblOf []
noncomputable def matrix_Right_1.an (k : Nat) (p : Nat) : Option Ann := none
noncomputable def matrix_Right_1.body : Code := (Try.f60.body).getD .skip
set_option maxRecDepth 100000 in
theorem matrix_Right_1.TS {C : FuncId → Bool} {X : CallF} (hX : XOk C X) (k : Nat) : TblS Try.prog C X (matrix_Right_1.T k) := by
  refine tblOf_sound ?_
  intro e he
  exact absurd he List.not_mem_nil
set_option maxRecDepth 100000 in
theorem matrix_Right_1.eq (k : Nat) (a : RT [.sl, .ptr]) (h : H) : (fun a h => matrix_Right_1.f k (a.1) (a.2) h) a h = kfun Try.prog (matrix_Right_1.T k) (matrix_Right_1.an k) (RT [.bool] × H) Try.f60 (encL [.sl, .ptr] a) h (fun vs h' => (decL [.bool] vs).bind fun x => some (x, h')) := by kernel_rfl
set_option maxRecDepth 100000 in
theorem matrix_Right_1.told {C : FuncId → Bool} {X : CallF} (hX : XOk C X) (k : Nat) : Den.Told Try.prog C X 60 [.sl, .ptr] [.bool] (fun a h => matrix_Right_1.f k (a.1) (a.2) h) :=
  told_of fun a h q e => fn_of (c := matrix_Right_1.body) (matrix_Right_1.TS hX k) Try.func60 (by kernel_rfl) (hX.no 60 _ h (by decide))
    (by
      have e : need (matrix_Right_1.an k) matrix_Right_1.body 1 = [] := by kernel_rfl
      rw [e]; intro q hq; cases hq)
    ((matrix_Right_1.eq k a h).symm.trans e)
/-! ### slices.IndexFunc[[][]byte,[]byte] -/
noncomputable def slices_IndexFunc_byte_byte_matrix_Right_1.l0 (k : Nat) (n : Nat) : Sl → (Option Addr) → Int → Int → H → Option (((Int) ⊕ (Unit)) × H) :=
  Nat.rec (motive := fun _ => Sl → (Option Addr) → Int → Int → H → Option (((Int) ⊕ (Unit)) × H)) (fun _ _ _ _ _ => none) (fun _ ih x1 x2 x3 x4 h5 => cond (decide (x4 < x3))
      ((asP (ixs 1 x1.a x1.n x4)).bind fun p6 =>
    (asS (ldc h5 p6)).bind fun s7 =>
    (matrix_Right_1.f k s7 x2 h5).bind fun q8 =>
    cond q8.1
      (some (Sum.inl x4, q8.2))
      (ih x1 (x2) x3 (wrapA .i64 (x4 + (1 : Int))) q8.2))
      (some (Sum.inr (), h5))) n
theorem slices_IndexFunc_byte_byte_matrix_Right_1.l0_zero (k : Nat) (x1 : Sl) (x2 : Option Addr) (x3 : Int) (x4 : Int) (h5 : H) : slices_IndexFunc_byte_byte_matrix_Right_1.l0 k 0 x1 x2 x3 x4 h5 = none := rfl
theorem slices_IndexFunc_byte_byte_matrix_Right_1.l0_succ (k n : Nat) (x1 : Sl) (x2 : Option Addr) (x3 : Int) (x4 : Int) (h5 : H) : slices_IndexFunc_byte_byte_matrix_Right_1.l0 k (n + 1) x1 x2 x3 x4 h5 = (cond (decide (x4 < x3))
      ((asP (ixs 1 x1.a x1.n x4)).bind fun p6 =>
    (asS (ldc h5 p6)).bind fun s7 =>
    (matrix_Right_1.f k s7 x2 h5).bind fun q8 =>
    cond q8.1
      (some (Sum.inl x4, q8.2))
      (slices_IndexFunc_byte_byte_matrix_Right_1.l0 k n x1 (x2) x3 (wrapA .i64 (x4 + (1 : Int))) q8.2))
      (some (Sum.inr (), h5))) := rfl
noncomputable def slices_IndexFunc_byte_byte_matrix_Right_1.f (k : Nat) (a0 : Sl) (a1 : Option Addr) (h : H) : Option ((Int) × H) :=
  (slices_IndexFunc_byte_byte_matrix_Right_1.l0 k k a0 (a1) (Int.ofNat a0.n) (0 : Int) h).bind fun w9 =>
    match w9.1 with
    | .inl r10 => some (r10, w9.2)
    | .inr o11 => some ((-1 : Int), w9.2)
noncomputable def slices_IndexFunc_byte_byte_matrix_Right_1.T (k : Nat) : Tbl := tblOf [⟨60, anyArgs, wr [.sl, .ptr] [.bool] (fun a h => matrix_Right_1.f k (a.1) (a.2) h)⟩]
noncomputable def slices_IndexFunc_byte_byte_matrix_Right_1.an (k : Nat) (p : Nat) : Option Ann := cond (Nat.beq p 26) (some (.pass [] (lrun [(0, .sl), (1, (.fn 60 1)), (7, (.int .i64)), (8, (.int .i64))] (some [(4, (.int .i64))]) [] 0 (fun a h => slices_IndexFunc_byte_byte_matrix_Right_1.l0 k k (a.1) (a.2.1) (a.2.2.1) (a.2.2.2) h))))
  (none)
noncomputable def slices_IndexFunc_byte_byte_matrix_Right_1.body : Code := (Try.f68.body).getD .skip
noncomputable def slices_IndexFunc_byte_byte_matrix_Right_1.c26 : Code := cat slices_IndexFunc_byte_byte_matrix_Right_1.body [1, 0, 1, 0, 0]
set_option maxRecDepth 100000 in
theorem slices_IndexFunc_byte_byte_matrix_Right_1.TS {C : FuncId → Bool} {X : CallF} (hX : XOk C X) (k : Nat) : TblS Try.prog C X (slices_IndexFunc_byte_byte_matrix_Right_1.T k) := by
  refine tblOf_sound ?_
  intro e he
  rcases List.mem_cons.1 he with rfl | he
  · exact wr_told (matrix_Right_1.told hX k)
  exact absurd he List.not_mem_nil
set_option maxRecDepth 100000 in
theorem slices_IndexFunc_byte_byte_matrix_Right_1.l0_pass {C : FuncId → Bool} {X : CallF} (hX : XOk C X) (k n : Nat) : PassS Try.prog C X 19 (.loop slices_IndexFunc_byte_byte_matrix_Right_1.c26) (lrun [(0, .sl), (1, (.fn 60 1)), (7, (.int .i64)), (8, (.int .i64))] (some [(4, (.int .i64))]) [] 0 (fun a h => slices_IndexFunc_byte_byte_matrix_Right_1.l0 k n (a.1) (a.2.1) (a.2.2.1) (a.2.2.2) h)) :=
  loop_pass (ins := [(0, .sl), (1, (.fn 60 1)), (7, (.int .i64)), (8, (.int .i64))]) (rets := (some [(4, (.int .i64))])) (outs := []) (id := 0) (tbl := slices_IndexFunc_byte_byte_matrix_Right_1.T k) (an := slices_IndexFunc_byte_byte_matrix_Right_1.an k) (pb := 52) (slices_IndexFunc_byte_byte_matrix_Right_1.TS hX k) (fun n => (fun a h => slices_IndexFunc_byte_byte_matrix_Right_1.l0 k n (a.1) (a.2.1) (a.2.2.1) (a.2.2.2) h)) (fun a h => rfl) (fun n a h => by kernel_rfl)
    (by
      have e : need (slices_IndexFunc_byte_byte_matrix_Right_1.an k) slices_IndexFunc_byte_byte_matrix_Right_1.c26 52 = [] := by kernel_rfl
      rw [e]; intro q hq; cases hq) n
set_option maxRecDepth 100000 in
theorem slices_IndexFunc_byte_byte_matrix_Right_1.eq (k : Nat) (a : RT [.sl, (.fn 60 1)]) (h : H) : (fun a h => slices_IndexFunc_byte_byte_matrix_Right_1.f k (a.1) (a.2) h) a h = kfun Try.prog (slices_IndexFunc_byte_byte_matrix_Right_1.T k) (slices_IndexFunc_byte_byte_matrix_Right_1.an k) (RT [(.int .i64)] × H) Try.f68 (encL [.sl, (.fn 60 1)] a) h (fun vs h' => (decL [(.int .i64)] vs).bind fun x => some (x, h')) := by kernel_rfl
set_option maxRecDepth 100000 in
theorem slices_IndexFunc_byte_byte_matrix_Right_1.told {C : FuncId → Bool} {X : CallF} (hX : XOk C X) (k : Nat) : Den.Told Try.prog C X 68 [.sl, (.fn 60 1)] [(.int .i64)] (fun a h => slices_IndexFunc_byte_byte_matrix_Right_1.f k (a.1) (a.2) h) :=
  told_of fun a h q e => fn_of (c := slices_IndexFunc_byte_byte_matrix_Right_1.body) (slices_IndexFunc_byte_byte_matrix_Right_1.TS hX k) Try.func68 (by kernel_rfl) (hX.no 68 _ h (by decide))
    (by
      have e : need (slices_IndexFunc_byte_byte_matrix_Right_1.an k) slices_IndexFunc_byte_byte_matrix_Right_1.body 1 = [(Code.loop slices_IndexFunc_byte_byte_matrix_Right_1.c26, lrun [(0, .sl), (1, (.fn 60 1)), (7, (.int .i64)), (8, (.int .i64))] (some [(4, (.int .i64))]) [] 0 (fun a h => slices_IndexFunc_byte_byte_matrix_Right_1.l0 k k (a.1) (a.2.1) (a.2.2.1) (a.2.2.2) h))] := by kernel_rfl
      rw [e]; intro q hq
      rcases List.mem_cons.1 hq with rfl | hq
      · exact slices_IndexFunc_byte_byte_matrix_Right_1.l0_pass hX k k
      cases hq)
    ((slices_IndexFunc_byte_byte_matrix_Right_1.eq k a h).symm.trans e)
/-! ### slices.ContainsFunc[[][]byte,[]byte] -/
noncomputable def slices_ContainsFunc_byte_byte_matrix_Right_1.f (k : Nat) (a0 : Sl) (a1 : Option Addr) (h : H) : Option ((Bool) × H) :=
  (slices_IndexFunc_byte_byte_matrix_Right_1.f k a0 (a1) h).bind fun q1 =>
    some (decide (q1.1 ≥ (0 : Int)), q1.2)
noncomputable def slices_ContainsFunc_byte_byte_matrix_Right_1.T (k : Nat) : Tbl := tblOf [⟨68, chkF [(1, 60)], wr [.sl, (.fn 60 1)] [(.int .i64)] (fun a h => slices_IndexFunc_byte_byte_matrix_Right_1.f k (a.1) (a.2) h)⟩]
noncomputable def slices_ContainsFunc_byte_byte_matrix_Right_1.an (k : Nat) (p : Nat) : Option Ann := none
noncomputable def slices_ContainsFunc_byte_byte_matrix_Right_1.body : Code := (Try.f59.body).getD .skip
set_option maxRecDepth 100000 in
theorem slices_ContainsFunc_byte_byte_matrix_Right_1.TS {C : FuncId → Bool} {X : CallF} (hX : XOk C X) (k : Nat) : TblS Try.prog C X (slices_ContainsFunc_byte_byte_matrix_Right_1.T k) := by
  refine tblOf_sound ?_
  intro e he
  rcases List.mem_cons.1 he with rfl | he
  · exact wr_told (slices_IndexFunc_byte_byte_matrix_Right_1.told hX k)
  exact absurd he List.not_mem_nil
set_option maxRecDepth 100000 in
theorem slices_ContainsFunc_byte_byte_matrix_Right_1.eq (k : Nat) (a : RT [.sl, (.fn 60 1)]) (h : H) : (fun a h => slices_ContainsFunc_byte_byte_matrix_Right_1.f k (a.1) (a.2) h) a h = kfun Try.prog (slices_ContainsFunc_byte_byte_matrix_Right_1.T k) (slices_ContainsFunc_byte_byte_matrix_Right_1.an k) (RT [.bool] × H) Try.f59 (encL [.sl, (.fn 60 1)] a) h (fun vs h' => (decL [.bool] vs).bind fun x => some (x, h')) := by kernel_rfl
set_option maxRecDepth 100000 in
theorem slices_ContainsFunc_byte_byte_matrix_Right_1.told {C : FuncId → Bool} {X : CallF} (hX : XOk C X) (k : Nat) : Den.Told Try.prog C X 59 [.sl, (.fn 60 1)] [.bool] (fun a h => slices_ContainsFunc_byte_byte_matrix_Right_1.f k (a.1) (a.2) h) :=
  told_of fun a h q e => fn_of (c := slices_ContainsFunc_byte_byte_matrix_Right_1.body) (slices_ContainsFunc_byte_byte_matrix_Right_1.TS hX k) Try.func59 (by kernel_rfl) (hX.no 59 _ h (by decide))
    (by
      have e : need (slices_ContainsFunc_byte_byte_matrix_Right_1.an k) slices_ContainsFunc_byte_byte_matrix_Right_1.body 1 = [] := by kernel_rfl
      rw [e]; intro q hq; cases hq)
    ((slices_ContainsFunc_byte_byte_matrix_Right_1.eq k a h).symm.trans e)
/-! ### corbel/matrix.Right -/
noncomputable def matrix_Right.f (k : Nat) (a0 : Sl) (h : H) : Option ((Bool) × H) :=
  (asS (ldc (newR h 37 1 [(Value.slice a0.a a0.n a0.c)]) (some ⟨h.next, 0, none⟩))).bind fun s1 =>
    (cond (decide ((Int.ofNat s1.n) < (1 : Int))) (some (true, (newR h 37 1 [(Value.slice a0.a a0.n a0.c)])))
      ((asS (ldc (newR h 37 1 [(Value.slice a0.a a0.n a0.c)]) (some ⟨h.next, 0, none⟩))).bind fun s2 =>
    some (decide ((Int.ofNat s2.n) > (64 : Int)), (newR h 37 1 [(Value.slice a0.a a0.n a0.c)])))).bind fun g3 =>
    (cond g3.1 (some (true, g3.2))
      ((asS (ldc g3.2 (some ⟨h.next, 0, none⟩))).bind fun s4 =>
    (asP (ixs 1 s4.a s4.n (0 : Int))).bind fun p5 =>
    (asS (ldc g3.2 p5)).bind fun s6 =>
    some (decide ((Int.ofNat s6.n) < (1 : Int)), g3.2))).bind fun g7 =>
    (cond g7.1 (some (true, g7.2))
      ((asS (ldc g7.2 (some ⟨h.next, 0, none⟩))).bind fun s8 =>
    (asP (ixs 1 s8.a s8.n (0 : Int))).bind fun p9 =>
    (asS (ldc g7.2 p9)).bind fun s10 =>
    some (decide ((Int.ofNat s10.n) > (64 : Int)), g7.2))).bind fun g11 =>
    cond g11.1
      (some (false, g11.2))
      ((asS (ldc g11.2 (some ⟨h.next, 0, none⟩))).bind fun s12 =>
    (slices_ContainsFunc_byte_byte_matrix_Right_1.f k s12 ((some ⟨h.next, 0, none⟩)) g11.2).bind fun q13 =>
    some (!q13.1, q13.2))
noncomputable def matrix_Right.T (k : Nat) : Tbl := tblOf [⟨59, chkF [(1, 60)], wr [.sl, (.fn 60 1)] [.bool] (fun a h => slices_ContainsFunc_byte_byte_matrix_Right_1.f k (a.1) (a.2) h)⟩]
noncomputable def matrix_Right.an (k : Nat) (p : Nat) : Option Ann := none
noncomputable def matrix_Right.body : Code := (Try.f34.body).getD .skip
set_option maxRecDepth 100000 in
theorem matrix_Right.TS {C : FuncId → Bool} {X : CallF} (hX : XOk C X) (k : Nat) : TblS Try.prog C X (matrix_Right.T k) := by
  refine tblOf_sound ?_
  intro e he
  rcases List.mem_cons.1 he with rfl | he
  · exact wr_told (slices_ContainsFunc_byte_byte_matrix_Right_1.told hX k)
  exact absurd he List.not_mem_nil
set_option maxRecDepth 100000 in
theorem matrix_Right.eq (k : Nat) (a : RT [.sl]) (h : H) : (fun a h => matrix_Right.f k a h) a h = kfun Try.prog (matrix_Right.T k) (matrix_Right.an k) (RT [.bool] × H) Try.f34 (encL [.sl] a) h (fun vs h' => (decL [.bool] vs).bind fun x => some (x, h')) := by kernel_rfl
set_option maxRecDepth 100000 in
theorem matrix_Right.told {C : FuncId → Bool} {X : CallF} (hX : XOk C X) (k : Nat) : Den.Told Try.prog C X 34 [.sl] [.bool] (fun a h => matrix_Right.f k a h) :=
  told_of fun a h q e => fn_of (c := matrix_Right.body) (matrix_Right.TS hX k) Try.func34 (by kernel_rfl) (hX.no 34 _ h (by decide))
    (by
      have e : need (matrix_Right.an k) matrix_Right.body 1 = [] := by kernel_rfl
      rw [e]; intro q hq; cases hq)
    ((matrix_Right.eq k a h).symm.trans e)
/-! ### corbel/matrix.row -/
noncomputable def matrix_row.l1 (k : Nat) (n : Nat) : (Option Addr) → Sl → Sl → Int → Sl → Int → Int → Sl → Int → Int → H → Option ((Unit) × H) :=
  Nat.rec (motive := fun _ => (Option Addr) → Sl → Sl → Int → Sl → Int → Int → Sl → Int → Int → H → Option ((Unit) × H)) (fun _ _ _ _ _ _ _ _ _ _ _ => none) (fun _ ih x15 x16 x17 x18 x19 x20 x21 x22 x23 x24 h25 => cond (decide (x24 < x23))
      ((asP (ixs 1 x22.a x22.n x24)).bind fun p26 =>
    (asI .u8 (ldc h25 p26)).bind fun n27 =>
    (asP (ixs 1 x17.a x17.n x24)).bind fun p28 =>
    (asI .u8 (ldc h25 p28)).bind fun n29 =>
    (field_Field_Mul.f k x15 x18 n27 h25).bind fun q30 =>
    (field_Field_Add.f k x15 n29 q30.1 q30.2).bind fun q31 =>
    (asP (ixs 1 x17.a x17.n x24)).bind fun p32 =>
    (stv 1 q31.2 p32 [(Value.int .u8 q31.1)]).bind fun q33 =>
    cond (same1 h25 q30.2 (some (Value.pointer p28)) && (true)) (ih x15 x16 x17 x18 x19 x20 x21 x22 x23 (wrapA .i64 (x24 + (1 : Int))) q33.2) none)
      (some ((), h25))) n
theorem matrix_row.l1_zero (k : Nat) (x15 : Option Addr) (x16 : Sl) (x17 : Sl) (x18 : Int) (x19 : Sl) (x20 : Int) (x21 : Int) (x22 : Sl) (x23 : Int) (x24 : Int) (h25 : H) : matrix_row.l1 k 0 x15 x16 x17 x18 x19 x20 x21 x22 x23 x24 h25 = none := rfl
theorem matrix_row.l1_succ (k n : Nat) (x15 : Option Addr) (x16 : Sl) (x17 : Sl) (x18 : Int) (x19 : Sl) (x20 : Int) (x21 : Int) (x22 : Sl) (x23 : Int) (x24 : Int) (h25 : H) : matrix_row.l1 k (n + 1) x15 x16 x17 x18 x19 x20 x21 x22 x23 x24 h25 = (cond (decide (x24 < x23))
      ((asP (ixs 1 x22.a x22.n x24)).bind fun p26 =>
    (asI .u8 (ldc h25 p26)).bind fun n27 =>
    (asP (ixs 1 x17.a x17.n x24)).bind fun p28 =>
    (asI .u8 (ldc h25 p28)).bind fun n29 =>
    (field_Field_Mul.f k x15 x18 n27 h25).bind fun q30 =>
    (field_Field_Add.f k x15 n29 q30.1 q30.2).bind fun q31 =>
    (asP (ixs 1 x17.a x17.n x24)).bind fun p32 =>
    (stv 1 q31.2 p32 [(Value.int .u8 q31.1)]).bind fun q33 =>
    cond (same1 h25 q30.2 (some (Value.pointer p28)) && (true)) (matrix_row.l1 k n x15 x16 x17 x18 x19 x20 x21 x22 x23 (wrapA .i64 (x24 + (1 : Int))) q33.2) none)
      (some ((), h25))) := rfl
noncomputable def matrix_row.l0 (k : Nat) (n : Nat) : (Option Addr) → Sl → Sl → Sl → Int → Int → H → Option ((Unit) × H) :=
  Nat.rec (motive := fun _ => (Option Addr) → Sl → Sl → Sl → Int → Int → H → Option ((Unit) × H)) (fun _ _ _ _ _ _ _ => none) (fun _ ih x4 x5 x6 x7 x8 x9 h10 => cond (decide (x9 < x8))
      ((asP (ixs 1 x7.a x7.n x9)).bind fun p11 =>
    (asI .u8 (ldc h10 p11)).bind fun n12 =>
    (asP (ixs 1 x5.a x5.n x9)).bind fun p13 =>
    (asS (ldc h10 p13)).bind fun s14 =>
    (matrix_row.l1 k k x4 x5 x6 n12 x7 x8 x9 s14 (Int.ofNat s14.n) (0 : Int) h10).bind fun w34 =>
    ih x4 x5 x6 x7 x8 (wrapA .i64 (x9 + (1 : Int))) w34.2)
      (some ((), h10))) n
theorem matrix_row.l0_zero (k : Nat) (x4 : Option Addr) (x5 : Sl) (x6 : Sl) (x7 : Sl) (x8 : Int) (x9 : Int) (h10 : H) : matrix_row.l0 k 0 x4 x5 x6 x7 x8 x9 h10 = none := rfl
theorem matrix_row.l0_succ (k n : Nat) (x4 : Option Addr) (x5 : Sl) (x6 : Sl) (x7 : Sl) (x8 : Int) (x9 : Int) (h10 : H) : matrix_row.l0 k (n + 1) x4 x5 x6 x7 x8 x9 h10 = (cond (decide (x9 < x8))
      ((asP (ixs 1 x7.a x7.n x9)).bind fun p11 =>
    (asI .u8 (ldc h10 p11)).bind fun n12 =>
    (asP (ixs 1 x5.a x5.n x9)).bind fun p13 =>
    (asS (ldc h10 p13)).bind fun s14 =>
    (matrix_row.l1 k k x4 x5 x6 n12 x7 x8 x9 s14 (Int.ofNat s14.n) (0 : Int) h10).bind fun w34 =>
    matrix_row.l0 k n x4 x5 x6 x7 x8 (wrapA .i64 (x9 + (1 : Int))) w34.2)
      (some ((), h10))) := rfl
noncomputable def matrix_row.f (k : Nat) (a0 : Option Addr) (a1 : Sl) (a2 : Sl) (h : H) : Option ((Sl) × H) :=
  (asP (ixs 1 a2.a a2.n (0 : Int))).bind fun p1 =>
    (asS (ldc h p1)).bind fun s2 =>
    (asS2 (mkz 5 1 1 [(Value.int .u8 (0 : Int))] (Int.ofNat s2.n) (Int.ofNat s2.n) h)).bind fun q3 =>
    (matrix_row.l0 k k a0 a2 q3.1 a1 (Int.ofNat a1.n) (0 : Int) q3.2).bind fun w35 =>
    some (q3.1, w35.2)
noncomputable def matrix_row.T (k : Nat) : Tbl := tblOf [⟨21, anyArgs, wr [.ptr, (.int .u8), (.int .u8)] [(.int .u8)] (fun a h => field_Field_Mul.f k (a.1) (a.2.1) (a.2.2) h)⟩,
  ⟨28, anyArgs, wr [.ptr, (.int .u8), (.int .u8)] [(.int .u8)] (fun a h => field_Field_Add.f k (a.1) (a.2.1) (a.2.2) h)⟩]
noncomputable def matrix_row.an (k : Nat) (p : Nat) : Option Ann := cond (Nat.beq p 58) (some (.pass [7] (lrun [(0, .ptr), (2, .sl), (7, .sl), (17, .sl), (18, (.int .i64)), (19, (.int .i64))] none [] 0 (fun a h => matrix_row.l0 k k (a.1) (a.2.1) (a.2.2.1) (a.2.2.2.1) (a.2.2.2.2.1) (a.2.2.2.2.2) h))))
  (cond (Nat.beq p 14950) (some (.pass [0, 2, 7, 17, 18, 19] (lrun [(0, .ptr), (2, .sl), (7, .sl), (9, (.int .u8)), (17, .sl), (18, (.int .i64)), (19, (.int .i64)), (27, .sl), (28, (.int .i64)), (29, (.int .i64))] none [] 2 (fun a h => matrix_row.l1 k k (a.1) (a.2.1) (a.2.2.1) (a.2.2.2.1) (a.2.2.2.2.1) (a.2.2.2.2.2.1) (a.2.2.2.2.2.2.1) (a.2.2.2.2.2.2.2.1) (a.2.2.2.2.2.2.2.2.1) (a.2.2.2.2.2.2.2.2.2) h))))
  (none))
noncomputable def matrix_row.body : Code := (Try.f61.body).getD .skip
noncomputable def matrix_row.c58 : Code := cat matrix_row.body [1, 1, 0, 1, 0, 0]
noncomputable def matrix_row.c14950 : Code := cat matrix_row.body [1, 1, 0, 1, 0, 0, 1, 1, 0, 0, 1, 1, 0, 0]
set_option maxRecDepth 100000 in
theorem matrix_row.TS {C : FuncId → Bool} {X : CallF} (hX : XOk C X) (k : Nat) : TblS Try.prog C X (matrix_row.T k) := by
  refine tblOf_sound ?_
  intro e he
  rcases List.mem_cons.1 he with rfl | he
  · exact wr_told (field_Field_Mul.told hX k)
  rcases List.mem_cons.1 he with rfl | he
  · exact wr_told (field_Field_Add.told hX k)
  exact absurd he List.not_mem_nil
set_option maxRecDepth 100000 in
theorem matrix_row.l1_pass {C : FuncId → Bool} {X : CallF} (hX : XOk C X) (k n : Nat) : PassS Try.prog C X 50 (.loop matrix_row.c14950) (lrun [(0, .ptr), (2, .sl), (7, .sl), (9, (.int .u8)), (17, .sl), (18, (.int .i64)), (19, (.int .i64)), (27, .sl), (28, (.int .i64)), (29, (.int .i64))] none [] 2 (fun a h => matrix_row.l1 k n (a.1) (a.2.1) (a.2.2.1) (a.2.2.2.1) (a.2.2.2.2.1) (a.2.2.2.2.2.1) (a.2.2.2.2.2.2.1) (a.2.2.2.2.2.2.2.1) (a.2.2.2.2.2.2.2.2.1) (a.2.2.2.2.2.2.2.2.2) h)) :=
  loop_pass (ins := [(0, .ptr), (2, .sl), (7, .sl), (9, (.int .u8)), (17, .sl), (18, (.int .i64)), (19, (.int .i64)), (27, .sl), (28, (.int .i64)), (29, (.int .i64))]) (rets := none) (outs := []) (id := 2) (tbl := matrix_row.T k) (an := matrix_row.an k) (pb := 29900) (matrix_row.TS hX k) (fun n => (fun a h => matrix_row.l1 k n (a.1) (a.2.1) (a.2.2.1) (a.2.2.2.1) (a.2.2.2.2.1) (a.2.2.2.2.2.1) (a.2.2.2.2.2.2.1) (a.2.2.2.2.2.2.2.1) (a.2.2.2.2.2.2.2.2.1) (a.2.2.2.2.2.2.2.2.2) h)) (fun a h => rfl) (fun n a h => by kernel_rfl)
    (by
      have e : need (matrix_row.an k) matrix_row.c14950 29900 = [] := by kernel_rfl
      rw [e]; intro q hq; cases hq) n
set_option maxRecDepth 100000 in
theorem matrix_row.l0_pass {C : FuncId → Bool} {X : CallF} (hX : XOk C X) (k n : Nat) : PassS Try.prog C X 50 (.loop matrix_row.c58) (lrun [(0, .ptr), (2, .sl), (7, .sl), (17, .sl), (18, (.int .i64)), (19, (.int .i64))] none [] 0 (fun a h => matrix_row.l0 k n (a.1) (a.2.1) (a.2.2.1) (a.2.2.2.1) (a.2.2.2.2.1) (a.2.2.2.2.2) h)) :=
  loop_pass (ins := [(0, .ptr), (2, .sl), (7, .sl), (17, .sl), (18, (.int .i64)), (19, (.int .i64))]) (rets := none) (outs := []) (id := 0) (tbl := matrix_row.T k) (an := matrix_row.an k) (pb := 116) (matrix_row.TS hX k) (fun n => (fun a h => matrix_row.l0 k n (a.1) (a.2.1) (a.2.2.1) (a.2.2.2.1) (a.2.2.2.2.1) (a.2.2.2.2.2) h)) (fun a h => rfl) (fun n a h => by kernel_rfl)
    (by
      have e : need (matrix_row.an k) matrix_row.c58 116 = [(Code.loop matrix_row.c14950, lrun [(0, .ptr), (2, .sl), (7, .sl), (9, (.int .u8)), (17, .sl), (18, (.int .i64)), (19, (.int .i64)), (27, .sl), (28, (.int .i64)), (29, (.int .i64))] none [] 2 (fun a h => matrix_row.l1 k k (a.1) (a.2.1) (a.2.2.1) (a.2.2.2.1) (a.2.2.2.2.1) (a.2.2.2.2.2.1) (a.2.2.2.2.2.2.1) (a.2.2.2.2.2.2.2.1) (a.2.2.2.2.2.2.2.2.1) (a.2.2.2.2.2.2.2.2.2) h))] := by kernel_rfl
      rw [e]; intro q hq
      rcases List.mem_cons.1 hq with rfl | hq
      · exact matrix_row.l1_pass hX k k
      cases hq) n
set_option maxRecDepth 100000 in
theorem matrix_row.eq (k : Nat) (a : RT [.ptr, .sl, .sl]) (h : H) : (fun a h => matrix_row.f k (a.1) (a.2.1) (a.2.2) h) a h = kfun Try.prog (matrix_row.T k) (matrix_row.an k) (RT [.sl] × H) Try.f61 (encL [.ptr, .sl, .sl] a) h (fun vs h' => (decL [.sl] vs).bind fun x => some (x, h')) := by kernel_rfl
set_option maxRecDepth 100000 in
theorem matrix_row.told {C : FuncId → Bool} {X : CallF} (hX : XOk C X) (k : Nat) : Den.Told Try.prog C X 61 [.ptr, .sl, .sl] [.sl] (fun a h => matrix_row.f k (a.1) (a.2.1) (a.2.2) h) :=
  told_of fun a h q e => fn_of (c := matrix_row.body) (matrix_row.TS hX k) Try.func61 (by kernel_rfl) (hX.no 61 _ h (by decide))
    (by
      have e : need (matrix_row.an k) matrix_row.body 1 = [(Code.loop matrix_row.c58, lrun [(0, .ptr), (2, .sl), (7, .sl), (17, .sl), (18, (.int .i64)), (19, (.int .i64))] none [] 0 (fun a h => matrix_row.l0 k k (a.1) (a.2.1) (a.2.2.1) (a.2.2.2.1) (a.2.2.2.2.1) (a.2.2.2.2.2) h))] := by kernel_rfl
      rw [e]; intro q hq
      rcases List.mem_cons.1 hq with rfl | hq
      · exact matrix_row.l0_pass hX k k
      cases hq)
    ((matrix_row.eq k a h).symm.trans e)
/-! ### corbel/matrix.Mul -/
noncomputable def matrix_Mul.l0 (k : Nat) (n : Nat) : (Option Addr) → Sl → Sl → Int → Sl → Int → H → Option ((Sl) × H) :=
  Nat.rec (motive := fun _ => (Option Addr) → Sl → Sl → Int → Sl → Int → H → Option ((Sl) × H)) (fun _ _ _ _ _ _ _ => none) (fun _ ih x9 x10 x11 x12 x13 x14 h15 => cond (decide (x14 < x12))
      ((asP (ixs 1 x11.a x11.n x14)).bind fun p16 =>
    (asS (ldc h15 p16)).bind fun s17 =>
    (matrix_row.f k x9 s17 x10 h15).bind fun q18 =>
    (asS2 (apv 40 1 24 (Value.slice x13.a x13.n x13.c) (Value.slice (some ⟨q18.2.next, 0, none⟩) 1 1) (newR q18.2 40 1 [(Value.slice q18.1.a q18.1.n q18.1.c)]))).bind fun q19 =>
    ih x9 x10 x11 x12 q19.1 (wrapA .i64 (x14 + (1 : Int))) q19.2)
      (some (x13, h15))) n
theorem matrix_Mul.l0_zero (k : Nat) (x9 : Option Addr) (x10 : Sl) (x11 : Sl) (x12 : Int) (x13 : Sl) (x14 : Int) (h15 : H) : matrix_Mul.l0 k 0 x9 x10 x11 x12 x13 x14 h15 = none := rfl
theorem matrix_Mul.l0_succ (k n : Nat) (x9 : Option Addr) (x10 : Sl) (x11 : Sl) (x12 : Int) (x13 : Sl) (x14 : Int) (h15 : H) : matrix_Mul.l0 k (n + 1) x9 x10 x11 x12 x13 x14 h15 = (cond (decide (x14 < x12))
      ((asP (ixs 1 x11.a x11.n x14)).bind fun p16 =>
    (asS (ldc h15 p16)).bind fun s17 =>
    (matrix_row.f k x9 s17 x10 h15).bind fun q18 =>
    (asS2 (apv 40 1 24 (Value.slice x13.a x13.n x13.c) (Value.slice (some ⟨q18.2.next, 0, none⟩) 1 1) (newR q18.2 40 1 [(Value.slice q18.1.a q18.1.n q18.1.c)]))).bind fun q19 =>
    matrix_Mul.l0 k n x9 x10 x11 x12 q19.1 (wrapA .i64 (x14 + (1 : Int))) q19.2)
      (some (x13, h15))) := rfl
noncomputable def matrix_Mul.f (k : Nat) (a0 : Option Addr) (a1 : Sl) (a2 : Sl) (h : H) : Option ((Sl) × H) :=
  (asB (binO1 Try.prog .eql 22 (Value.pointer a0) (Value.pointer none))).bind fun b1 =>
    (cond b1 (some (true, h))
      ((matrix_Right.f k a1 h).bind fun q2 =>
    some (!q2.1, q2.2))).bind fun g3 =>
    (cond g3.1 (some (true, g3.2))
      ((matrix_Right.f k a2 g3.2).bind fun q4 =>
    some (!q4.1, q4.2))).bind fun g5 =>
    (cond g5.1 (some (true, g5.2))
      ((asP (ixs 1 a1.a a1.n (0 : Int))).bind fun p6 =>
    (asS (ldc g5.2 p6)).bind fun s7 =>
    some ((Int.ofNat s7.n) != (Int.ofNat a2.n), g5.2))).bind fun g8 =>
    cond g8.1
      (some ((⟨none, 0, 0⟩ : Sl), g8.2))
      ((matrix_Mul.l0 k k a0 a2 a1 (Int.ofNat a1.n) (⟨none, 0, 0⟩ : Sl) (0 : Int) g8.2).bind fun w20 =>
    some (w20.1, w20.2))
noncomputable def matrix_Mul.T (k : Nat) : Tbl := tblOf [⟨34, anyArgs, wr [.sl] [.bool] (fun a h => matrix_Right.f k a h)⟩,
  ⟨61, anyArgs, wr [.ptr, .sl, .sl] [.sl] (fun a h => matrix_row.f k (a.1) (a.2.1) (a.2.2) h)⟩]
noncomputable def matrix_Mul.an (k : Nat) (p : Nat) : Option Ann := cond (Nat.beq p 122) (some (.pass [] (lrun [(0, .ptr), (2, .sl), (31, .sl), (32, (.int .i64)), (7, .sl), (33, (.int .i64))] none [(7, .sl)] 0 (fun a h => matrix_Mul.l0 k k (a.1) (a.2.1) (a.2.2.1) (a.2.2.2.1) (a.2.2.2.2.1) (a.2.2.2.2.2) h))))
  (none)
noncomputable def matrix_Mul.body : Code := (Try.f35.body).getD .skip
noncomputable def matrix_Mul.c122 : Code := cat matrix_Mul.body [1, 1, 1, 0, 1, 0, 0]
set_option maxRecDepth 100000 in
theorem matrix_Mul.TS {C : FuncId → Bool} {X : CallF} (hX : XOk C X) (k : Nat) : TblS Try.prog C X (matrix_Mul.T k) := by
  refine tblOf_sound ?_
  intro e he
  rcases List.mem_cons.1 he with rfl | he
  · exact wr_told (matrix_Right.told hX k)
  rcases List.mem_cons.1 he with rfl | he
  · exact wr_told (matrix_row.told hX k)
  exact absurd he List.not_mem_nil
set_option maxRecDepth 100000 in
theorem matrix_Mul.l0_pass {C : FuncId → Bool} {X : CallF} (hX : XOk C X) (k n : Nat) : PassS Try.prog C X 46 (.loop matrix_Mul.c122) (lrun [(0, .ptr), (2, .sl), (31, .sl), (32, (.int .i64)), (7, .sl), (33, (.int .i64))] none [(7, .sl)] 0 (fun a h => matrix_Mul.l0 k n (a.1) (a.2.1) (a.2.2.1) (a.2.2.2.1) (a.2.2.2.2.1) (a.2.2.2.2.2) h)) :=
  loop_pass (ins := [(0, .ptr), (2, .sl), (31, .sl), (32, (.int .i64)), (7, .sl), (33, (.int .i64))]) (rets := none) (outs := [(7, .sl)]) (id := 0) (tbl := matrix_Mul.T k) (an := matrix_Mul.an k) (pb := 244) (matrix_Mul.TS hX k) (fun n => (fun a h => matrix_Mul.l0 k n (a.1) (a.2.1) (a.2.2.1) (a.2.2.2.1) (a.2.2.2.2.1) (a.2.2.2.2.2) h)) (fun a h => rfl) (fun n a h => by kernel_rfl)
    (by
      have e : need (matrix_Mul.an k) matrix_Mul.c122 244 = [] := by kernel_rfl
      rw [e]; intro q hq; cases hq) n
set_option maxRecDepth 100000 in
theorem matrix_Mul.eq (k : Nat) (a : RT [.ptr, .sl, .sl]) (h : H) : (fun a h => matrix_Mul.f k (a.1) (a.2.1) (a.2.2) h) a h = kfun Try.prog (matrix_Mul.T k) (matrix_Mul.an k) (RT [.sl] × H) Try.f35 (encL [.ptr, .sl, .sl] a) h (fun vs h' => (decL [.sl] vs).bind fun x => some (x, h')) := by kernel_rfl
set_option maxRecDepth 100000 in
theorem matrix_Mul.told {C : FuncId → Bool} {X : CallF} (hX : XOk C X) (k : Nat) : Den.Told Try.prog C X 35 [.ptr, .sl, .sl] [.sl] (fun a h => matrix_Mul.f k (a.1) (a.2.1) (a.2.2) h) :=
  told_of fun a h q e => fn_of (c := matrix_Mul.body) (matrix_Mul.TS hX k) Try.func35 (by kernel_rfl) (hX.no 35 _ h (by decide))
    (by
      have e : need (matrix_Mul.an k) matrix_Mul.body 1 = [(Code.loop matrix_Mul.c122, lrun [(0, .ptr), (2, .sl), (31, .sl), (32, (.int .i64)), (7, .sl), (33, (.int .i64))] none [(7, .sl)] 0 (fun a h => matrix_Mul.l0 k k (a.1) (a.2.1) (a.2.2.1) (a.2.2.2.1) (a.2.2.2.2.1) (a.2.2.2.2.2) h))] := by kernel_rfl
      rw [e]; intro q hq
      rcases List.mem_cons.1 hq with rfl | hq
      · exact matrix_Mul.l0_pass hX k k
      cases hq)
    ((matrix_Mul.eq k a h).symm.trans e)
/-! ### slices.Grow[[]byte,byte] -/
noncomputable def slices_Grow_byte_byte.f (k : Nat) (a0 : Sl) (a1 : Int) (h : H) : Option ((Sl) × H) :=
  (cond (decide (a1 < (0 : Int)))
      (none)
      (some ((), h)) : Option ((Unit) × H)).bind fun j1 =>
    (asI2 .i64 (pv j1.2 (capV a0.a a0.c))).bind fun q2 =>
    (cond (decide ((wrapA .i64 (a1 - (wrapA .i64 (q2.1 - (Int.ofNat a0.n))))) > (0 : Int)))
      ((asI2 .i64 (pv q2.2 (capV a0.a a0.c))).bind fun q3 =>
    (asS (subs 1 (Value.slice a0.a a0.n a0.c) none (some q3.1))).bind fun s4 =>
    (asS2 (apz 5 1 1 [(Value.int .u8 (0 : Int))] (Value.slice s4.a s4.n s4.c) (wrapA .i64 (a1 - (wrapA .i64 (q2.1 - (Int.ofNat a0.n))))) q3.2)).bind fun q5 =>
    (asS (subs 1 (Value.slice q5.1.a q5.1.n q5.1.c) none (some (Int.ofNat a0.n)))).bind fun s6 =>
    some (s6, q5.2))
      (some (a0, q2.2)) : Option ((Sl) × H)).bind fun j7 =>
    some (j7.1, j7.2)
noncomputable def slices_Grow_byte_byte.T (k : Nat) : Tbl := tblOf []
noncomputable def slices_Grow_byte_byte.an (k : Nat) (p : Nat) : Option Ann := cond (Nat.beq p 59) (some (.join [] none [(0, .sl)]))
  (cond (Nat.beq p 13) (some (.join [0, 1] none []))
  (none))
noncomputable def slices_Grow_byte_byte.body : Code := (Try.f71.body).getD .skip
set_option maxRecDepth 100000 in
theorem slices_Grow_byte_byte.TS {C : FuncId → Bool} {X : CallF} (hX : XOk C X) (k : Nat) : TblS Try.prog C X (slices_Grow_byte_byte.T k) := by
  refine tblOf_sound ?_
  intro e he
  exact absurd he List.not_mem_nil
set_option maxRecDepth 100000 in
theorem slices_Grow_byte_byte.eq (k : Nat) (a : RT [.sl, (.int .i64)]) (h : H) : (fun a h => slices_Grow_byte_byte.f k (a.1) (a.2) h) a h = kfun Try.prog (slices_Grow_byte_byte.T k) (slices_Grow_byte_byte.an k) (RT [.sl] × H) Try.f71 (encL [.sl, (.int .i64)] a) h (fun vs h' => (decL [.sl] vs).bind fun x => some (x, h')) := by kernel_rfl
set_option maxRecDepth 100000 in
theorem slices_Grow_byte_byte.told {C : FuncId → Bool} {X : CallF} (hX : XOk C X) (k : Nat) : Den.Told Try.prog C X 71 [.sl, (.int .i64)] [.sl] (fun a h => slices_Grow_byte_byte.f k (a.1) (a.2) h) :=
  told_of fun a h q e => fn_of (c := slices_Grow_byte_byte.body) (slices_Grow_byte_byte.TS hX k) Try.func71 (by kernel_rfl) (hX.no 71 _ h (by decide))
    (by
      have e : need (slices_Grow_byte_byte.an k) slices_Grow_byte_byte.body 1 = [] := by kernel_rfl
      rw [e]; intro q hq; cases hq)
    ((slices_Grow_byte_byte.eq k a h).symm.trans e)
/-! ### slices.Concat[[]byte,byte] -/
noncomputable def slices_Concat_byte_byte.l1 (k : Nat) (n : Nat) : Sl → Int → Sl → Int → H → Option ((Sl) × H) :=
  Nat.rec (motive := fun _ => Sl → Int → Sl → Int → H → Option ((Sl) × H)) (fun _ _ _ _ _ => none) (fun _ ih x12 x13 x14 x15 h16 => cond (decide (x15 < x13))
      ((asP (ixs 1 x12.a x12.n x15)).bind fun p17 =>
    (asS (ldc h16 p17)).bind fun s18 =>
    (asS2 (apv 5 1 1 (Value.slice x14.a x14.n x14.c) (Value.slice s18.a s18.n s18.c) h16)).bind fun q19 =>
    ih x12 x13 q19.1 (wrapA .i64 (x15 + (1 : Int))) q19.2)
      (some (x14, h16))) n
theorem slices_Concat_byte_byte.l1_zero (k : Nat) (x12 : Sl) (x13 : Int) (x14 : Sl) (x15 : Int) (h16 : H) : slices_Concat_byte_byte.l1 k 0 x12 x13 x14 x15 h16 = none := rfl
theorem slices_Concat_byte_byte.l1_succ (k n : Nat) (x12 : Sl) (x13 : Int) (x14 : Sl) (x15 : Int) (h16 : H) : slices_Concat_byte_byte.l1 k (n + 1) x12 x13 x14 x15 h16 = (cond (decide (x15 < x13))
      ((asP (ixs 1 x12.a x12.n x15)).bind fun p17 =>
    (asS (ldc h16 p17)).bind fun s18 =>
    (asS2 (apv 5 1 1 (Value.slice x14.a x14.n x14.c) (Value.slice s18.a s18.n s18.c) h16)).bind fun q19 =>
    slices_Concat_byte_byte.l1 k n x12 x13 q19.1 (wrapA .i64 (x15 + (1 : Int))) q19.2)
      (some (x14, h16))) := rfl
noncomputable def slices_Concat_byte_byte.l0 (k : Nat) (n : Nat) : Sl → Sl → Int → Int → Int → H → Option ((Int) × H) :=
  Nat.rec (motive := fun _ => Sl → Sl → Int → Int → Int → H → Option ((Int) × H)) (fun _ _ _ _ _ _ => none) (fun _ ih x1 x2 x3 x4 x5 h6 => cond (decide (x5 < x3))
      ((asP (ixs 1 x2.a x2.n x5)).bind fun p7 =>
    (asS (ldc h6 p7)).bind fun s8 =>
    (cond (decide ((wrapA .i64 (x4 + (Int.ofNat s8.n))) < (0 : Int)))
      (none)
      (some ((), h6)) : Option ((Unit) × H)).bind fun j9 =>
    ih x1 x2 x3 (wrapA .i64 (x4 + (Int.ofNat s8.n))) (wrapA .i64 (x5 + (1 : Int))) j9.2)
      (some (x4, h6))) n
theorem slices_Concat_byte_byte.l0_zero (k : Nat) (x1 : Sl) (x2 : Sl) (x3 : Int) (x4 : Int) (x5 : Int) (h6 : H) : slices_Concat_byte_byte.l0 k 0 x1 x2 x3 x4 x5 h6 = none := rfl
theorem slices_Concat_byte_byte.l0_succ (k n : Nat) (x1 : Sl) (x2 : Sl) (x3 : Int) (x4 : Int) (x5 : Int) (h6 : H) : slices_Concat_byte_byte.l0 k (n + 1) x1 x2 x3 x4 x5 h6 = (cond (decide (x5 < x3))
      ((asP (ixs 1 x2.a x2.n x5)).bind fun p7 =>
    (asS (ldc h6 p7)).bind fun s8 =>
    (cond (decide ((wrapA .i64 (x4 + (Int.ofNat s8.n))) < (0 : Int)))
      (none)
      (some ((), h6)) : Option ((Unit) × H)).bind fun j9 =>
    slices_Concat_byte_byte.l0 k n x1 x2 x3 (wrapA .i64 (x4 + (Int.ofNat s8.n))) (wrapA .i64 (x5 + (1 : Int))) j9.2)
      (some (x4, h6))) := rfl
noncomputable def slices_Concat_byte_byte.f (k : Nat) (a0 : Sl) (h : H) : Option ((Sl) × H) :=
  (slices_Concat_byte_byte.l0 k k a0 a0 (Int.ofNat a0.n) (0 : Int) (0 : Int) h).bind fun w10 =>
    (slices_Grow_byte_byte.f k (⟨none, 0, 0⟩ : Sl) w10.1 w10.2).bind fun q11 =>
    (slices_Concat_byte_byte.l1 k k a0 (Int.ofNat a0.n) q11.1 (0 : Int) q11.2).bind fun w20 =>
    some (w20.1, w20.2)
noncomputable def slices_Concat_byte_byte.T (k : Nat) : Tbl := tblOf [⟨71, anyArgs, wr [.sl, (.int .i64)] [.sl] (fun a h => slices_Grow_byte_byte.f k (a.1) (a.2) h)⟩]
noncomputable def slices_Concat_byte_byte.an (k : Nat) (p : Nat) : Option Ann := cond (Nat.beq p 250) (some (.pass [] (lrun [(25, .sl), (26, (.int .i64)), (6, .sl), (27, (.int .i64))] none [(6, .sl)] 2 (fun a h => slices_Concat_byte_byte.l1 k k (a.1) (a.2.1) (a.2.2.1) (a.2.2.2) h))))
  (cond (Nat.beq p 58) (some (.pass [0] (lrun [(0, .sl), (9, .sl), (10, (.int .i64)), (3, (.int .i64)), (11, (.int .i64))] none [(3, (.int .i64))] 0 (fun a h => slices_Concat_byte_byte.l0 k k (a.1) (a.2.1) (a.2.2.1) (a.2.2.2.1) (a.2.2.2.2) h))))
  (cond (Nat.beq p 14951) (some (.join [0, 3, 9, 10, 11] none []))
  (none)))
noncomputable def slices_Concat_byte_byte.body : Code := (Try.f67.body).getD .skip
noncomputable def slices_Concat_byte_byte.c58 : Code := cat slices_Concat_byte_byte.body [1, 1, 0, 1, 0, 0]
noncomputable def slices_Concat_byte_byte.c250 : Code := cat slices_Concat_byte_byte.body [1, 1, 1, 1, 0, 1, 0, 0]
set_option maxRecDepth 100000 in
theorem slices_Concat_byte_byte.TS {C : FuncId → Bool} {X : CallF} (hX : XOk C X) (k : Nat) : TblS Try.prog C X (slices_Concat_byte_byte.T k) := by
  refine tblOf_sound ?_
  intro e he
  rcases List.mem_cons.1 he with rfl | he
  · exact wr_told (slices_Grow_byte_byte.told hX k)
  exact absurd he List.not_mem_nil
set_option maxRecDepth 100000 in
theorem slices_Concat_byte_byte.l1_pass {C : FuncId → Bool} {X : CallF} (hX : XOk C X) (k n : Nat) : PassS Try.prog C X 36 (.loop slices_Concat_byte_byte.c250) (lrun [(25, .sl), (26, (.int .i64)), (6, .sl), (27, (.int .i64))] none [(6, .sl)] 2 (fun a h => slices_Concat_byte_byte.l1 k n (a.1) (a.2.1) (a.2.2.1) (a.2.2.2) h)) :=
  loop_pass (ins := [(25, .sl), (26, (.int .i64)), (6, .sl), (27, (.int .i64))]) (rets := none) (outs := [(6, .sl)]) (id := 2) (tbl := slices_Concat_byte_byte.T k) (an := slices_Concat_byte_byte.an k) (pb := 500) (slices_Concat_byte_byte.TS hX k) (fun n => (fun a h => slices_Concat_byte_byte.l1 k n (a.1) (a.2.1) (a.2.2.1) (a.2.2.2) h)) (fun a h => rfl) (fun n a h => by kernel_rfl)
    (by
      have e : need (slices_Concat_byte_byte.an k) slices_Concat_byte_byte.c250 500 = [] := by kernel_rfl
      rw [e]; intro q hq; cases hq) n
set_option maxRecDepth 100000 in
theorem slices_Concat_byte_byte.l0_pass {C : FuncId → Bool} {X : CallF} (hX : XOk C X) (k n : Nat) : PassS Try.prog C X 36 (.loop slices_Concat_byte_byte.c58) (lrun [(0, .sl), (9, .sl), (10, (.int .i64)), (3, (.int .i64)), (11, (.int .i64))] none [(3, (.int .i64))] 0 (fun a h => slices_Concat_byte_byte.l0 k n (a.1) (a.2.1) (a.2.2.1) (a.2.2.2.1) (a.2.2.2.2) h)) :=
  loop_pass (ins := [(0, .sl), (9, .sl), (10, (.int .i64)), (3, (.int .i64)), (11, (.int .i64))]) (rets := none) (outs := [(3, (.int .i64))]) (id := 0) (tbl := slices_Concat_byte_byte.T k) (an := slices_Concat_byte_byte.an k) (pb := 116) (slices_Concat_byte_byte.TS hX k) (fun n => (fun a h => slices_Concat_byte_byte.l0 k n (a.1) (a.2.1) (a.2.2.1) (a.2.2.2.1) (a.2.2.2.2) h)) (fun a h => rfl) (fun n a h => by kernel_rfl)
    (by
      have e : need (slices_Concat_byte_byte.an k) slices_Concat_byte_byte.c58 116 = [] := by kernel_rfl
      rw [e]; intro q hq; cases hq) n
set_option maxRecDepth 100000 in
theorem slices_Concat_byte_byte.eq (k : Nat) (a : RT [.sl]) (h : H) : (fun a h => slices_Concat_byte_byte.f k a h) a h = kfun Try.prog (slices_Concat_byte_byte.T k) (slices_Concat_byte_byte.an k) (RT [.sl] × H) Try.f67 (encL [.sl] a) h (fun vs h' => (decL [.sl] vs).bind fun x => some (x, h')) := by kernel_rfl
set_option maxRecDepth 100000 in
theorem slices_Concat_byte_byte.told {C : FuncId → Bool} {X : CallF} (hX : XOk C X) (k : Nat) : Den.Told Try.prog C X 67 [.sl] [.sl] (fun a h => slices_Concat_byte_byte.f k a h) :=
  told_of fun a h q e => fn_of (c := slices_Concat_byte_byte.body) (slices_Concat_byte_byte.TS hX k) Try.func67 (by kernel_rfl) (hX.no 67 _ h (by decide))
    (by
      have e : need (slices_Concat_byte_byte.an k) slices_Concat_byte_byte.body 1 = [(Code.loop slices_Concat_byte_byte.c58, lrun [(0, .sl), (9, .sl), (10, (.int .i64)), (3, (.int .i64)), (11, (.int .i64))] none [(3, (.int .i64))] 0 (fun a h => slices_Concat_byte_byte.l0 k k (a.1) (a.2.1) (a.2.2.1) (a.2.2.2.1) (a.2.2.2.2) h)), (Code.loop slices_Concat_byte_byte.c250, lrun [(25, .sl), (26, (.int .i64)), (6, .sl), (27, (.int .i64))] none [(6, .sl)] 2 (fun a h => slices_Concat_byte_byte.l1 k k (a.1) (a.2.1) (a.2.2.1) (a.2.2.2) h))] := by kernel_rfl
      rw [e]; intro q hq
      rcases List.mem_cons.1 hq with rfl | hq
      · exact slices_Concat_byte_byte.l0_pass hX k k
      rcases List.mem_cons.1 hq with rfl | hq
      · exact slices_Concat_byte_byte.l1_pass hX k k
      cases hq)
    ((slices_Concat_byte_byte.eq k a h).symm.trans e)
/-! ### corbel/matrix.both -/
noncomputable def matrix_both.l0 (k : Nat) (n : Nat) : Sl → Sl → Int → Sl → Int → H → Option ((Sl) × H) :=
  Nat.rec (motive := fun _ => Sl → Sl → Int → Sl → Int → H → Option ((Sl) × H)) (fun _ _ _ _ _ _ => none) (fun _ ih x2 x3 x4 x5 x6 h7 => cond (decide (x6 < x4))
      ((asP (ixs 1 x3.a x3.n x6)).bind fun p8 =>
    (asS (ldc h7 p8)).bind fun s9 =>
    (asP (ixs 1 x2.a x2.n x6)).bind fun p10 =>
    (asS (ldc h7 p10)).bind fun s11 =>
    (slices_Concat_byte_byte.f k (⟨(some ⟨h7.next, 0, none⟩), 2, 2⟩ : Sl) (newR h7 40 1 [(Value.slice s11.a s11.n s11.c), (Value.slice s9.a s9.n s9.c)])).bind fun q12 =>
    (asS2 (apv 40 1 24 (Value.slice x5.a x5.n x5.c) (Value.slice (some ⟨q12.2.next, 0, none⟩) 1 1) (newR q12.2 40 1 [(Value.slice q12.1.a q12.1.n q12.1.c)]))).bind fun q13 =>
    ih x2 x3 x4 q13.1 (wrapA .i64 (x6 + (1 : Int))) q13.2)
      (some (x5, h7))) n
theorem matrix_both.l0_zero (k : Nat) (x2 : Sl) (x3 : Sl) (x4 : Int) (x5 : Sl) (x6 : Int) (h7 : H) : matrix_both.l0 k 0 x2 x3 x4 x5 x6 h7 = none := rfl
theorem matrix_both.l0_succ (k n : Nat) (x2 : Sl) (x3 : Sl) (x4 : Int) (x5 : Sl) (x6 : Int) (h7 : H) : matrix_both.l0 k (n + 1) x2 x3 x4 x5 x6 h7 = (cond (decide (x6 < x4))
      ((asP (ixs 1 x3.a x3.n x6)).bind fun p8 =>
    (asS (ldc h7 p8)).bind fun s9 =>
    (asP (ixs 1 x2.a x2.n x6)).bind fun p10 =>
    (asS (ldc h7 p10)).bind fun s11 =>
    (slices_Concat_byte_byte.f k (⟨(some ⟨h7.next, 0, none⟩), 2, 2⟩ : Sl) (newR h7 40 1 [(Value.slice s11.a s11.n s11.c), (Value.slice s9.a s9.n s9.c)])).bind fun q12 =>
    (asS2 (apv 40 1 24 (Value.slice x5.a x5.n x5.c) (Value.slice (some ⟨q12.2.next, 0, none⟩) 1 1) (newR q12.2 40 1 [(Value.slice q12.1.a q12.1.n q12.1.c)]))).bind fun q13 =>
    matrix_both.l0 k n x2 x3 x4 q13.1 (wrapA .i64 (x6 + (1 : Int))) q13.2)
      (some (x5, h7))) := rfl
noncomputable def matrix_both.f (k : Nat) (a0 : Sl) (h : H) : Option ((Sl) × H) :=
  (matrix_Identity.f k (Int.ofNat a0.n) h).bind fun q1 =>
    (matrix_both.l0 k k a0 q1.1 (Int.ofNat q1.1.n) (⟨none, 0, 0⟩ : Sl) (0 : Int) q1.2).bind fun w14 =>
    some (w14.1, w14.2)
noncomputable def matrix_both.T (k : Nat) : Tbl := tblOf [⟨33, anyArgs, wr [(.int .i64)] [.sl] (fun a h => matrix_Identity.f k a h)⟩,
  ⟨67, anyArgs, wr [.sl] [.sl] (fun a h => slices_Concat_byte_byte.f k a h)⟩]
noncomputable def matrix_both.an (k : Nat) (p : Nat) : Option Ann := cond (Nat.beq p 58) (some (.pass [] (lrun [(0, .sl), (8, .sl), (9, (.int .i64)), (3, .sl), (10, (.int .i64))] none [(3, .sl)] 0 (fun a h => matrix_both.l0 k k (a.1) (a.2.1) (a.2.2.1) (a.2.2.2.1) (a.2.2.2.2) h))))
  (none)
noncomputable def matrix_both.body : Code := (Try.f53.body).getD .skip
noncomputable def matrix_both.c58 : Code := cat matrix_both.body [1, 1, 0, 1, 0, 0]
set_option maxRecDepth 100000 in
theorem matrix_both.TS {C : FuncId → Bool} {X : CallF} (hX : XOk C X) (k : Nat) : TblS Try.prog C X (matrix_both.T k) := by
  refine tblOf_sound ?_
  intro e he
  rcases List.mem_cons.1 he with rfl | he
  · exact wr_told (matrix_Identity.told hX k)
  rcases List.mem_cons.1 he with rfl | he
  · exact wr_told (slices_Concat_byte_byte.told hX k)
  exact absurd he List.not_mem_nil
set_option maxRecDepth 100000 in
theorem matrix_both.l0_pass {C : FuncId → Bool} {X : CallF} (hX : XOk C X) (k n : Nat) : PassS Try.prog C X 27 (.loop matrix_both.c58) (lrun [(0, .sl), (8, .sl), (9, (.int .i64)), (3, .sl), (10, (.int .i64))] none [(3, .sl)] 0 (fun a h => matrix_both.l0 k n (a.1) (a.2.1) (a.2.2.1) (a.2.2.2.1) (a.2.2.2.2) h)) :=
  loop_pass (ins := [(0, .sl), (8, .sl), (9, (.int .i64)), (3, .sl), (10, (.int .i64))]) (rets := none) (outs := [(3, .sl)]) (id := 0) (tbl := matrix_both.T k) (an := matrix_both.an k) (pb := 116) (matrix_both.TS hX k) (fun n => (fun a h => matrix_both.l0 k n (a.1) (a.2.1) (a.2.2.1) (a.2.2.2.1) (a.2.2.2.2) h)) (fun a h => rfl) (fun n a h => by kernel_rfl)
    (by
      have e : need (matrix_both.an k) matrix_both.c58 116 = [] := by kernel_rfl
      rw [e]; intro q hq; cases hq) n
set_option maxRecDepth 100000 in
theorem matrix_both.eq (k : Nat) (a : RT [.sl]) (h : H) : (fun a h => matrix_both.f k a h) a h = kfun Try.prog (matrix_both.T k) (matrix_both.an k) (RT [.sl] × H) Try.f53 (encL [.sl] a) h (fun vs h' => (decL [.sl] vs).bind fun x => some (x, h')) := by kernel_rfl
set_option maxRecDepth 100000 in
theorem matrix_both.told {C : FuncId → Bool} {X : CallF} (hX : XOk C X) (k : Nat) : Den.Told Try.prog C X 53 [.sl] [.sl] (fun a h => matrix_both.f k a h) :=
  told_of fun a h q e => fn_of (c := matrix_both.body) (matrix_both.TS hX k) Try.func53 (by kernel_rfl) (hX.no 53 _ h (by decide))
    (by
      have e : need (matrix_both.an k) matrix_both.body 1 = [(Code.loop matrix_both.c58, lrun [(0, .sl), (8, .sl), (9, (.int .i64)), (3, .sl), (10, (.int .i64))] none [(3, .sl)] 0 (fun a h => matrix_both.l0 k k (a.1) (a.2.1) (a.2.2.1) (a.2.2.2.1) (a.2.2.2.2) h))] := by kernel_rfl
      rw [e]; intro q hq
      rcases List.mem_cons.1 hq with rfl | hq
      · exact matrix_both.l0_pass hX k k
      cases hq)
    ((matrix_both.eq k a h).symm.trans e)
/-! ### corbel/matrix.clear$1 -/
noncomputable def matrix_clear_1.f (k : Nat) (a0 : Sl) (a1 : Option Addr) (h : H) : Option ((Bool) × H) :=
  (asI .i64 (ldc h a1)).bind fun n1 =>
    (asP (ixs 1 a0.a a0.n n1)).bind fun p2 =>
    (asI .u8 (ldc h p2)).bind fun n3 =>
    some (n3 != (0 : Int), h)
noncomputable def matrix_clear_1.T (k : Nat) : Tbl := tblOf []
noncomputable def matrix_clear_1.an (k : Nat) (p : Nat) : Option Ann := none
noncomputable def matrix_clear_1.body : Code := (Try.f69.body).getD .skip
set_option maxRecDepth 100000 in
theorem matrix_clear_1.TS {C : FuncId → Bool} {X : CallF} (hX : XOk C X) (k : Nat) : TblS Try.prog C X (matrix_clear_1.T k) := by
  refine tblOf_sound ?_
  intro e he
  exact absurd he List.not_mem_nil
set_option maxRecDepth 100000 in
theorem matrix_clear_1.eq (k : Nat) (a : RT [.sl, .ptr]) (h : H) : (fun a h => matrix_clear_1.f k (a.1) (a.2) h) a h = kfun Try.prog (matrix_clear_1.T k) (matrix_clear_1.an k) (RT [.bool] × H) Try.f69 (encL [.sl, .ptr] a) h (fun vs h' => (decL [.bool] vs).bind fun x => some (x, h')) := by kernel_rfl
set_option maxRecDepth 100000 in
theorem matrix_clear_1.told {C : FuncId → Bool} {X : CallF} (hX : XOk C X) (k : Nat) : Den.Told Try.prog C X 69 [.sl, .ptr] [.bool] (fun a h => matrix_clear_1.f k (a.1) (a.2) h) :=
  told_of fun a h q e => fn_of (c := matrix_clear_1.body) (matrix_clear_1.TS hX k) Try.func69 (by kernel_rfl) (hX.no 69 _ h (by decide))
    (by
      have e : need (matrix_clear_1.an k) matrix_clear_1.body 1 = [] := by kernel_rfl
      rw [e]; intro q hq; cases hq)
    ((matrix_clear_1.eq k a h).symm.trans e)
/-! ### slices.IndexFunc[[][]byte,[]byte] -/
noncomputable def slices_IndexFunc_byte_byte_matrix_clear_1.l0 (k : Nat) (n : Nat) : Sl → (Option Addr) → Int → Int → H → Option (((Int) ⊕ (Unit)) × H) :=
  Nat.rec (motive := fun _ => Sl → (Option Addr) → Int → Int → H → Option (((Int) ⊕ (Unit)) × H)) (fun _ _ _ _ _ => none) (fun _ ih x1 x2 x3 x4 h5 => cond (decide (x4 < x3))
      ((asP (ixs 1 x1.a x1.n x4)).bind fun p6 =>
    (asS (ldc h5 p6)).bind fun s7 =>
    (matrix_clear_1.f k s7 x2 h5).bind fun q8 =>
    cond q8.1
      (some (Sum.inl x4, q8.2))
      (ih x1 (x2) x3 (wrapA .i64 (x4 + (1 : Int))) q8.2))
      (some (Sum.inr (), h5))) n
theorem slices_IndexFunc_byte_byte_matrix_clear_1.l0_zero (k : Nat) (x1 : Sl) (x2 : Option Addr) (x3 : Int) (x4 : Int) (h5 : H) : slices_IndexFunc_byte_byte_matrix_clear_1.l0 k 0 x1 x2 x3 x4 h5 = none := rfl
theorem slices_IndexFunc_byte_byte_matrix_clear_1.l0_succ (k n : Nat) (x1 : Sl) (x2 : Option Addr) (x3 : Int) (x4 : Int) (h5 : H) : slices_IndexFunc_byte_byte_matrix_clear_1.l0 k (n + 1) x1 x2 x3 x4 h5 = (cond (decide (x4 < x3))
      ((asP (ixs 1 x1.a x1.n x4)).bind fun p6 =>
    (asS (ldc h5 p6)).bind fun s7 =>
    (matrix_clear_1.f k s7 x2 h5).bind fun q8 =>
    cond q8.1
      (some (Sum.inl x4, q8.2))
      (slices_IndexFunc_byte_byte_matrix_clear_1.l0 k n x1 (x2) x3 (wrapA .i64 (x4 + (1 : Int))) q8.2))
      (some (Sum.inr (), h5))) := rfl
noncomputable def slices_IndexFunc_byte_byte_matrix_clear_1.f (k : Nat) (a0 : Sl) (a1 : Option Addr) (h : H) : Option ((Int) × H) :=
  (slices_IndexFunc_byte_byte_matrix_clear_1.l0 k k a0 (a1) (Int.ofNat a0.n) (0 : Int) h).bind fun w9 =>
    match w9.1 with
    | .inl r10 => some (r10, w9.2)
    | .inr o11 => some ((-1 : Int), w9.2)
noncomputable def slices_IndexFunc_byte_byte_matrix_clear_1.T (k : Nat) : Tbl := tblOf [⟨69, anyArgs, wr [.sl, .ptr] [.bool] (fun a h => matrix_clear_1.f k (a.1) (a.2) h)⟩]
noncomputable def slices_IndexFunc_byte_byte_matrix_clear_1.an (k : Nat) (p : Nat) : Option Ann := cond (Nat.beq p 26) (some (.pass [] (lrun [(0, .sl), (1, (.fn 69 1)), (7, (.int .i64)), (8, (.int .i64))] (some [(4, (.int .i64))]) [] 0 (fun a h => slices_IndexFunc_byte_byte_matrix_clear_1.l0 k k (a.1) (a.2.1) (a.2.2.1) (a.2.2.2) h))))
  (none)
noncomputable def slices_IndexFunc_byte_byte_matrix_clear_1.body : Code := (Try.f68.body).getD .skip
noncomputable def slices_IndexFunc_byte_byte_matrix_clear_1.c26 : Code := cat slices_IndexFunc_byte_byte_matrix_clear_1.body [1, 0, 1, 0, 0]
set_option maxRecDepth 100000 in
theorem slices_IndexFunc_byte_byte_matrix_clear_1.TS {C : FuncId → Bool} {X : CallF} (hX : XOk C X) (k : Nat) : TblS Try.prog C X (slices_IndexFunc_byte_byte_matrix_clear_1.T k) := by
  refine tblOf_sound ?_
  intro e he
  rcases List.mem_cons.1 he with rfl | he
  · exact wr_told (matrix_clear_1.told hX k)
  exact absurd he List.not_mem_nil
set_option maxRecDepth 100000 in
theorem slices_IndexFunc_byte_byte_matrix_clear_1.l0_pass {C : FuncId → Bool} {X : CallF} (hX : XOk C X) (k n : Nat) : PassS Try.prog C X 19 (.loop slices_IndexFunc_byte_byte_matrix_clear_1.c26) (lrun [(0, .sl), (1, (.fn 69 1)), (7, (.int .i64)), (8, (.int .i64))] (some [(4, (.int .i64))]) [] 0 (fun a h => slices_IndexFunc_byte_byte_matrix_clear_1.l0 k n (a.1) (a.2.1) (a.2.2.1) (a.2.2.2) h)) :=
  loop_pass (ins := [(0, .sl), (1, (.fn 69 1)), (7, (.int .i64)), (8, (.int .i64))]) (rets := (some [(4, (.int .i64))])) (outs := []) (id := 0) (tbl := slices_IndexFunc_byte_byte_matrix_clear_1.T k) (an := slices_IndexFunc_byte_byte_matrix_clear_1.an k) (pb := 52) (slices_IndexFunc_byte_byte_matrix_clear_1.TS hX k) (fun n => (fun a h => slices_IndexFunc_byte_byte_matrix_clear_1.l0 k n (a.1) (a.2.1) (a.2.2.1) (a.2.2.2) h)) (fun a h => rfl) (fun n a h => by kernel_rfl)
    (by
      have e : need (slices_IndexFunc_byte_byte_matrix_clear_1.an k) slices_IndexFunc_byte_byte_matrix_clear_1.c26 52 = [] := by kernel_rfl
      rw [e]; intro q hq; cases hq) n
set_option maxRecDepth 100000 in
theorem slices_IndexFunc_byte_byte_matrix_clear_1.eq (k : Nat) (a : RT [.sl, (.fn 69 1)]) (h : H) : (fun a h => slices_IndexFunc_byte_byte_matrix_clear_1.f k (a.1) (a.2) h) a h = kfun Try.prog (slices_IndexFunc_byte_byte_matrix_clear_1.T k) (slices_IndexFunc_byte_byte_matrix_clear_1.an k) (RT [(.int .i64)] × H) Try.f68 (encL [.sl, (.fn 69 1)] a) h (fun vs h' => (decL [(.int .i64)] vs).bind fun x => some (x, h')) := by kernel_rfl
set_option maxRecDepth 100000 in
theorem slices_IndexFunc_byte_byte_matrix_clear_1.told {C : FuncId → Bool} {X : CallF} (hX : XOk C X) (k : Nat) : Den.Told Try.prog C X 68 [.sl, (.fn 69 1)] [(.int .i64)] (fun a h => slices_IndexFunc_byte_byte_matrix_clear_1.f k (a.1) (a.2) h) :=
  told_of fun a h q e => fn_of (c := slices_IndexFunc_byte_byte_matrix_clear_1.body) (slices_IndexFunc_byte_byte_matrix_clear_1.TS hX k) Try.func68 (by kernel_rfl) (hX.no 68 _ h (by decide))
    (by
      have e : need (slices_IndexFunc_byte_byte_matrix_clear_1.an k) slices_IndexFunc_byte_byte_matrix_clear_1.body 1 = [(Code.loop slices_IndexFunc_byte_byte_matrix_clear_1.c26, lrun [(0, .sl), (1, (.fn 69 1)), (7, (.int .i64)), (8, (.int .i64))] (some [(4, (.int .i64))]) [] 0 (fun a h => slices_IndexFunc_byte_byte_matrix_clear_1.l0 k k (a.1) (a.2.1) (a.2.2.1) (a.2.2.2) h))] := by kernel_rfl
      rw [e]; intro q hq
      rcases List.mem_cons.1 hq with rfl | hq
      · exact slices_IndexFunc_byte_byte_matrix_clear_1.l0_pass hX k k
      cases hq)
    ((slices_IndexFunc_byte_byte_matrix_clear_1.eq k a h).symm.trans e)
/-! ### corbel/matrix.clear -/
noncomputable def matrix_clear.l2 (k : Nat) (n : Nat) : (Option Addr) → Sl → (Option Addr) → Sl → Int → Sl → Int → Int → Int → Int → H → Option ((Unit) × H) :=
  Nat.rec (motive := fun _ => (Option Addr) → Sl → (Option Addr) → Sl → Int → Sl → Int → Int → Int → Int → H → Option ((Unit) × H)) (fun _ _ _ _ _ _ _ _ _ _ _ => none) (fun _ ih x59 x60 x61 x62 x63 x64 x65 x66 x67 x68 h69 => cond (decide (x68 < x67))
      ((asP (ixs 1 x62.a x62.n x68)).bind fun p70 =>
    (asI .u8 (ldc h69 p70)).bind fun n71 =>
    (asI .i64 (ldc h69 x61)).bind fun n72 =>
    (asP (ixs 1 x60.a x60.n n72)).bind fun p73 =>
    (asS (ldc h69 p73)).bind fun s74 =>
    (asP (ixs 1 s74.a s74.n x68)).bind fun p75 =>
    (asI .u8 (ldc h69 p75)).bind fun n76 =>
    (field_Field_Mul.f k x59 x63 n76 h69).bind fun q77 =>
    (field_Field_Add.f k x59 n71 q77.1 q77.2).bind fun q78 =>
    (asP (ixs 1 x62.a x62.n x68)).bind fun p79 =>
    (stv 1 q78.2 p79 [(Value.int .u8 q78.1)]).bind fun q80 =>
    cond (same1 h69 q77.2 (some (Value.pointer p70)) && (true)) (ih x59 x60 x61 x62 x63 x64 x65 x66 x67 (wrapA .i64 (x68 + (1 : Int))) q80.2) none)
      (some ((), h69))) n
theorem matrix_clear.l2_zero (k : Nat) (x59 : Option Addr) (x60 : Sl) (x61 : Option Addr) (x62 : Sl) (x63 : Int) (x64 : Sl) (x65 : Int) (x66 : Int) (x67 : Int) (x68 : Int) (h69 : H) : matrix_clear.l2 k 0 x59 x60 x61 x62 x63 x64 x65 x66 x67 x68 h69 = none := rfl
theorem matrix_clear.l2_succ (k n : Nat) (x59 : Option Addr) (x60 : Sl) (x61 : Option Addr) (x62 : Sl) (x63 : Int) (x64 : Sl) (x65 : Int) (x66 : Int) (x67 : Int) (x68 : Int) (h69 : H) : matrix_clear.l2 k (n + 1) x59 x60 x61 x62 x63 x64 x65 x66 x67 x68 h69 = (cond (decide (x68 < x67))
      ((asP (ixs 1 x62.a x62.n x68)).bind fun p70 =>
    (asI .u8 (ldc h69 p70)).bind fun n71 =>
    (asI .i64 (ldc h69 x61)).bind fun n72 =>
    (asP (ixs 1 x60.a x60.n n72)).bind fun p73 =>
    (asS (ldc h69 p73)).bind fun s74 =>
    (asP (ixs 1 s74.a s74.n x68)).bind fun p75 =>
    (asI .u8 (ldc h69 p75)).bind fun n76 =>
    (field_Field_Mul.f k x59 x63 n76 h69).bind fun q77 =>
    (field_Field_Add.f k x59 n71 q77.1 q77.2).bind fun q78 =>
    (asP (ixs 1 x62.a x62.n x68)).bind fun p79 =>
    (stv 1 q78.2 p79 [(Value.int .u8 q78.1)]).bind fun q80 =>
    cond (same1 h69 q77.2 (some (Value.pointer p70)) && (true)) (matrix_clear.l2 k n x59 x60 x61 x62 x63 x64 x65 x66 x67 (wrapA .i64 (x68 + (1 : Int))) q80.2) none)
      (some ((), h69))) := rfl
noncomputable def matrix_clear.l1 (k : Nat) (n : Nat) : (Option Addr) → Sl → (Option Addr) → Sl → Int → Int → H → Option ((Unit) × H) :=
  Nat.rec (motive := fun _ => (Option Addr) → Sl → (Option Addr) → Sl → Int → Int → H → Option ((Unit) × H)) (fun _ _ _ _ _ _ _ => none) (fun _ ih x45 x46 x47 x48 x49 x50 h51 => cond (decide (x50 < x49))
      ((asP (ixs 1 x48.a x48.n x50)).bind fun p52 =>
    (asS (ldc h51 p52)).bind fun s53 =>
    (asI .i64 (ldc h51 x47)).bind fun n54 =>
    (asP (ixs 1 s53.a s53.n n54)).bind fun p55 =>
    (asI .u8 (ldc h51 p55)).bind fun n56 =>
    (asI .i64 (ldc h51 x47)).bind fun n57 =>
    (cond (x50 == n57) (some (true, h51))
      (some (n56 == (0 : Int), h51))).bind fun g58 =>
    cond g58.1
      (ih x45 x46 x47 x48 x49 (wrapA .i64 (x50 + (1 : Int))) g58.2)
      ((matrix_clear.l2 k k x45 x46 x47 s53 n56 x48 x49 x50 (Int.ofNat s53.n) (0 : Int) g58.2).bind fun w81 =>
    ih x45 x46 x47 x48 x49 (wrapA .i64 (x50 + (1 : Int))) w81.2))
      (some ((), h51))) n
theorem matrix_clear.l1_zero (k : Nat) (x45 : Option Addr) (x46 : Sl) (x47 : Option Addr) (x48 : Sl) (x49 : Int) (x50 : Int) (h51 : H) : matrix_clear.l1 k 0 x45 x46 x47 x48 x49 x50 h51 = none := rfl
theorem matrix_clear.l1_succ (k n : Nat) (x45 : Option Addr) (x46 : Sl) (x47 : Option Addr) (x48 : Sl) (x49 : Int) (x50 : Int) (h51 : H) : matrix_clear.l1 k (n + 1) x45 x46 x47 x48 x49 x50 h51 = (cond (decide (x50 < x49))
      ((asP (ixs 1 x48.a x48.n x50)).bind fun p52 =>
    (asS (ldc h51 p52)).bind fun s53 =>
    (asI .i64 (ldc h51 x47)).bind fun n54 =>
    (asP (ixs 1 s53.a s53.n n54)).bind fun p55 =>
    (asI .u8 (ldc h51 p55)).bind fun n56 =>
    (asI .i64 (ldc h51 x47)).bind fun n57 =>
    (cond (x50 == n57) (some (true, h51))
      (some (n56 == (0 : Int), h51))).bind fun g58 =>
    cond g58.1
      (matrix_clear.l1 k n x45 x46 x47 x48 x49 (wrapA .i64 (x50 + (1 : Int))) g58.2)
      ((matrix_clear.l2 k k x45 x46 x47 s53 n56 x48 x49 x50 (Int.ofNat s53.n) (0 : Int) g58.2).bind fun w81 =>
    matrix_clear.l1 k n x45 x46 x47 x48 x49 (wrapA .i64 (x50 + (1 : Int))) w81.2))
      (some ((), h51))) := rfl
noncomputable def matrix_clear.l0 (k : Nat) (n : Nat) : (Option Addr) → Sl → (Option Addr) → Int → Int → Int → H → Option ((Unit) × H) :=
  Nat.rec (motive := fun _ => (Option Addr) → Sl → (Option Addr) → Int → Int → Int → H → Option ((Unit) × H)) (fun _ _ _ _ _ _ _ => none) (fun _ ih x26 x27 x28 x29 x30 x31 h32 => cond (decide (x31 < x30))
      ((asI .i64 (ldc h32 x28)).bind fun n33 =>
    (asP (ixs 1 x27.a x27.n n33)).bind fun p34 =>
    (asS (ldc h32 p34)).bind fun s35 =>
    (asI .i64 (ldc h32 x28)).bind fun n36 =>
    (asP (ixs 1 x27.a x27.n n36)).bind fun p37 =>
    (asS (ldc h32 p37)).bind fun s38 =>
    (asP (ixs 1 s38.a s38.n x31)).bind fun p39 =>
    (asI .u8 (ldc h32 p39)).bind fun n40 =>
    (field_Field_Mul.f k x26 n40 x29 h32).bind fun q41 =>
    (asP (ixs 1 s35.a s35.n x31)).bind fun p42 =>
    (stv 1 q41.2 p42 [(Value.int .u8 q41.1)]).bind fun q43 =>
    cond (same1 h32 q41.2 (some (Value.pointer x28)) && (same1 h32 q41.2 (some (Value.pointer p34)) && (true))) (ih x26 x27 x28 x29 x30 (wrapA .i64 (x31 + (1 : Int))) q43.2) none)
      (some ((), h32))) n
theorem matrix_clear.l0_zero (k : Nat) (x26 : Option Addr) (x27 : Sl) (x28 : Option Addr) (x29 : Int) (x30 : Int) (x31 : Int) (h32 : H) : matrix_clear.l0 k 0 x26 x27 x28 x29 x30 x31 h32 = none := rfl
theorem matrix_clear.l0_succ (k n : Nat) (x26 : Option Addr) (x27 : Sl) (x28 : Option Addr) (x29 : Int) (x30 : Int) (x31 : Int) (h32 : H) : matrix_clear.l0 k (n + 1) x26 x27 x28 x29 x30 x31 h32 = (cond (decide (x31 < x30))
      ((asI .i64 (ldc h32 x28)).bind fun n33 =>
    (asP (ixs 1 x27.a x27.n n33)).bind fun p34 =>
    (asS (ldc h32 p34)).bind fun s35 =>
    (asI .i64 (ldc h32 x28)).bind fun n36 =>
    (asP (ixs 1 x27.a x27.n n36)).bind fun p37 =>
    (asS (ldc h32 p37)).bind fun s38 =>
    (asP (ixs 1 s38.a s38.n x31)).bind fun p39 =>
    (asI .u8 (ldc h32 p39)).bind fun n40 =>
    (field_Field_Mul.f k x26 n40 x29 h32).bind fun q41 =>
    (asP (ixs 1 s35.a s35.n x31)).bind fun p42 =>
    (stv 1 q41.2 p42 [(Value.int .u8 q41.1)]).bind fun q43 =>
    cond (same1 h32 q41.2 (some (Value.pointer x28)) && (same1 h32 q41.2 (some (Value.pointer p34)) && (true))) (matrix_clear.l0 k n x26 x27 x28 x29 x30 (wrapA .i64 (x31 + (1 : Int))) q43.2) none)
      (some ((), h32))) := rfl
noncomputable def matrix_clear.f (k : Nat) (a0 : Option Addr) (a1 : Sl) (a2 : Int) (h : H) : Option ((Bool) × H) :=
  (asI .i64 (ldc (newR h 3 1 [(Value.int .i64 a2)]) (some ⟨h.next, 0, none⟩))).bind fun n1 =>
    (asS (subs 1 (Value.slice a1.a a1.n a1.c) (some n1) none)).bind fun s2 =>
    (slices_IndexFunc_byte_byte_matrix_clear_1.f k s2 ((some ⟨h.next, 0, none⟩)) (newR h 3 1 [(Value.int .i64 a2)])).bind fun q3 =>
    cond (decide (q3.1 < (0 : Int)))
      (some (false, q3.2))
      ((asI .i64 (ldc q3.2 (some ⟨h.next, 0, none⟩))).bind fun n4 =>
    (asI .i64 (ldc q3.2 (some ⟨h.next, 0, none⟩))).bind fun n5 =>
    (asI .i64 (ldc q3.2 (some ⟨h.next, 0, none⟩))).bind fun n6 =>
    (asP (ixs 1 a1.a a1.n (wrapA .i64 (n6 + q3.1)))).bind fun p7 =>
    (asS (ldc q3.2 p7)).bind fun s8 =>
    (asI .i64 (ldc q3.2 (some ⟨h.next, 0, none⟩))).bind fun n9 =>
    (asP (ixs 1 a1.a a1.n n9)).bind fun p10 =>
    (asS (ldc q3.2 p10)).bind fun s11 =>
    (asP (ixs 1 a1.a a1.n n4)).bind fun p12 =>
    (stv 1 q3.2 p12 [(Value.slice s8.a s8.n s8.c)]).bind fun q13 =>
    (asP (ixs 1 a1.a a1.n (wrapA .i64 (n5 + q3.1)))).bind fun p14 =>
    (stv 1 q13.2 p14 [(Value.slice s11.a s11.n s11.c)]).bind fun q15 =>
    cond (same1 q3.2 q13.2 (some (Value.pointer (some ⟨h.next, 0, none⟩))) && (true)) ((asI .i64 (ldc q15.2 (some ⟨h.next, 0, none⟩))).bind fun n16 =>
    (asP (ixs 1 a1.a a1.n n16)).bind fun p17 =>
    (asS (ldc q15.2 p17)).bind fun s18 =>
    (asI .i64 (ldc q15.2 (some ⟨h.next, 0, none⟩))).bind fun n19 =>
    (asP (ixs 1 s18.a s18.n n19)).bind fun p20 =>
    (asI .u8 (ldc q15.2 p20)).bind fun n21 =>
    (field_Field_Inv.f k a0 n21 q15.2).bind fun q22 =>
    (asI .i64 (ldc q22.2 (some ⟨h.next, 0, none⟩))).bind fun n23 =>
    (asP (ixs 1 a1.a a1.n n23)).bind fun p24 =>
    (asS (ldc q22.2 p24)).bind fun s25 =>
    (matrix_clear.l0 k k a0 a1 (some ⟨h.next, 0, none⟩) q22.1.1 (Int.ofNat s25.n) (0 : Int) q22.2).bind fun w44 =>
    (matrix_clear.l1 k k a0 a1 (some ⟨h.next, 0, none⟩) a1 (Int.ofNat a1.n) (0 : Int) w44.2).bind fun w82 =>
    some (true, w82.2)) none)
noncomputable def matrix_clear.T (k : Nat) : Tbl := tblOf [⟨68, chkF [(1, 69)], wr [.sl, (.fn 69 1)] [(.int .i64)] (fun a h => slices_IndexFunc_byte_byte_matrix_clear_1.f k (a.1) (a.2) h)⟩,
  ⟨22, anyArgs, wr [.ptr, (.int .u8)] [(.int .u8), .bool] (fun a h => field_Field_Inv.f k (a.1) (a.2) h)⟩,
  ⟨21, anyArgs, wr [.ptr, (.int .u8), (.int .u8)] [(.int .u8)] (fun a h => field_Field_Mul.f k (a.1) (a.2.1) (a.2.2) h)⟩,
  ⟨28, anyArgs, wr [.ptr, (.int .u8), (.int .u8)] [(.int .u8)] (fun a h => field_Field_Add.f k (a.1) (a.2.1) (a.2.2) h)⟩]
noncomputable def matrix_clear.an (k : Nat) (p : Nat) : Option Ann := cond (Nat.beq p 1018) (some (.pass [] (lrun [(0, .ptr), (1, .sl), (5, .ptr), (77, .sl), (78, (.int .i64)), (79, (.int .i64))] none [] 2 (fun a h => matrix_clear.l1 k k (a.1) (a.2.1) (a.2.2.1) (a.2.2.2.1) (a.2.2.2.2.1) (a.2.2.2.2.2) h))))
  (cond (Nat.beq p 1042846) (some (.pass [0, 1, 5, 77, 78, 79] (lrun [(0, .ptr), (1, .sl), (5, .ptr), (12, .sl), (13, (.int .u8)), (77, .sl), (78, (.int .i64)), (79, (.int .i64)), (96, (.int .i64)), (97, (.int .i64))] none [] 4 (fun a h => matrix_clear.l2 k k (a.1) (a.2.1) (a.2.2.1) (a.2.2.2.1) (a.2.2.2.2.1) (a.2.2.2.2.2.1) (a.2.2.2.2.2.2.1) (a.2.2.2.2.2.2.2.1) (a.2.2.2.2.2.2.2.2.1) (a.2.2.2.2.2.2.2.2.2) h))))
  (cond (Nat.beq p 506) (some (.pass [0, 1, 5] (lrun [(0, .ptr), (1, .sl), (5, .ptr), (8, (.int .u8)), (56, (.int .i64)), (57, (.int .i64))] none [] 0 (fun a h => matrix_clear.l0 k k (a.1) (a.2.1) (a.2.2.1) (a.2.2.2.1) (a.2.2.2.2.1) (a.2.2.2.2.2) h))))
  (none)))
noncomputable def matrix_clear.body : Code := (Try.f54.body).getD .skip
noncomputable def matrix_clear.c506 : Code := cat matrix_clear.body [1, 1, 1, 1, 1, 0, 1, 0, 0]
noncomputable def matrix_clear.c1018 : Code := cat matrix_clear.body [1, 1, 1, 1, 1, 1, 0, 1, 0, 0]
noncomputable def matrix_clear.c1042846 : Code := cat matrix_clear.body [1, 1, 1, 1, 1, 1, 0, 1, 0, 0, 1, 1, 0, 0, 1, 1, 1, 1, 0, 0]
set_option maxRecDepth 100000 in
theorem matrix_clear.TS {C : FuncId → Bool} {X : CallF} (hX : XOk C X) (k : Nat) : TblS Try.prog C X (matrix_clear.T k) := by
  refine tblOf_sound ?_
  intro e he
  rcases List.mem_cons.1 he with rfl | he
  · exact wr_told (slices_IndexFunc_byte_byte_matrix_clear_1.told hX k)
  rcases List.mem_cons.1 he with rfl | he
  · exact wr_told (field_Field_Inv.told hX k)
  rcases List.mem_cons.1 he with rfl | he
  · exact wr_told (field_Field_Mul.told hX k)
  rcases List.mem_cons.1 he with rfl | he
  · exact wr_told (field_Field_Add.told hX k)
  exact absurd he List.not_mem_nil
set_option maxRecDepth 100000 in
theorem matrix_clear.l2_pass {C : FuncId → Bool} {X : CallF} (hX : XOk C X) (k n : Nat) : PassS Try.prog C X 121 (.loop matrix_clear.c1042846) (lrun [(0, .ptr), (1, .sl), (5, .ptr), (12, .sl), (13, (.int .u8)), (77, .sl), (78, (.int .i64)), (79, (.int .i64)), (96, (.int .i64)), (97, (.int .i64))] none [] 4 (fun a h => matrix_clear.l2 k n (a.1) (a.2.1) (a.2.2.1) (a.2.2.2.1) (a.2.2.2.2.1) (a.2.2.2.2.2.1) (a.2.2.2.2.2.2.1) (a.2.2.2.2.2.2.2.1) (a.2.2.2.2.2.2.2.2.1) (a.2.2.2.2.2.2.2.2.2) h)) :=
  loop_pass (ins := [(0, .ptr), (1, .sl), (5, .ptr), (12, .sl), (13, (.int .u8)), (77, .sl), (78, (.int .i64)), (79, (.int .i64)), (96, (.int .i64)), (97, (.int .i64))]) (rets := none) (outs := []) (id := 4) (tbl := matrix_clear.T k) (an := matrix_clear.an k) (pb := 2085692) (matrix_clear.TS hX k) (fun n => (fun a h => matrix_clear.l2 k n (a.1) (a.2.1) (a.2.2.1) (a.2.2.2.1) (a.2.2.2.2.1) (a.2.2.2.2.2.1) (a.2.2.2.2.2.2.1) (a.2.2.2.2.2.2.2.1) (a.2.2.2.2.2.2.2.2.1) (a.2.2.2.2.2.2.2.2.2) h)) (fun a h => rfl) (fun n a h => by kernel_rfl)
    (by
      have e : need (matrix_clear.an k) matrix_clear.c1042846 2085692 = [] := by kernel_rfl
      rw [e]; intro q hq; cases hq) n
set_option maxRecDepth 100000 in
theorem matrix_clear.l1_pass {C : FuncId → Bool} {X : CallF} (hX : XOk C X) (k n : Nat) : PassS Try.prog C X 121 (.loop matrix_clear.c1018) (lrun [(0, .ptr), (1, .sl), (5, .ptr), (77, .sl), (78, (.int .i64)), (79, (.int .i64))] none [] 2 (fun a h => matrix_clear.l1 k n (a.1) (a.2.1) (a.2.2.1) (a.2.2.2.1) (a.2.2.2.2.1) (a.2.2.2.2.2) h)) :=
  loop_pass (ins := [(0, .ptr), (1, .sl), (5, .ptr), (77, .sl), (78, (.int .i64)), (79, (.int .i64))]) (rets := none) (outs := []) (id := 2) (tbl := matrix_clear.T k) (an := matrix_clear.an k) (pb := 2036) (matrix_clear.TS hX k) (fun n => (fun a h => matrix_clear.l1 k n (a.1) (a.2.1) (a.2.2.1) (a.2.2.2.1) (a.2.2.2.2.1) (a.2.2.2.2.2) h)) (fun a h => rfl) (fun n a h => by kernel_rfl)
    (by
      have e : need (matrix_clear.an k) matrix_clear.c1018 2036 = [(Code.loop matrix_clear.c1042846, lrun [(0, .ptr), (1, .sl), (5, .ptr), (12, .sl), (13, (.int .u8)), (77, .sl), (78, (.int .i64)), (79, (.int .i64)), (96, (.int .i64)), (97, (.int .i64))] none [] 4 (fun a h => matrix_clear.l2 k k (a.1) (a.2.1) (a.2.2.1) (a.2.2.2.1) (a.2.2.2.2.1) (a.2.2.2.2.2.1) (a.2.2.2.2.2.2.1) (a.2.2.2.2.2.2.2.1) (a.2.2.2.2.2.2.2.2.1) (a.2.2.2.2.2.2.2.2.2) h))] := by kernel_rfl
      rw [e]; intro q hq
      rcases List.mem_cons.1 hq with rfl | hq
      · exact matrix_clear.l2_pass hX k k
      cases hq) n
set_option maxRecDepth 100000 in
theorem matrix_clear.l0_pass {C : FuncId → Bool} {X : CallF} (hX : XOk C X) (k n : Nat) : PassS Try.prog C X 121 (.loop matrix_clear.c506) (lrun [(0, .ptr), (1, .sl), (5, .ptr), (8, (.int .u8)), (56, (.int .i64)), (57, (.int .i64))] none [] 0 (fun a h => matrix_clear.l0 k n (a.1) (a.2.1) (a.2.2.1) (a.2.2.2.1) (a.2.2.2.2.1) (a.2.2.2.2.2) h)) :=
  loop_pass (ins := [(0, .ptr), (1, .sl), (5, .ptr), (8, (.int .u8)), (56, (.int .i64)), (57, (.int .i64))]) (rets := none) (outs := []) (id := 0) (tbl := matrix_clear.T k) (an := matrix_clear.an k) (pb := 1012) (matrix_clear.TS hX k) (fun n => (fun a h => matrix_clear.l0 k n (a.1) (a.2.1) (a.2.2.1) (a.2.2.2.1) (a.2.2.2.2.1) (a.2.2.2.2.2) h)) (fun a h => rfl) (fun n a h => by kernel_rfl)
    (by
      have e : need (matrix_clear.an k) matrix_clear.c506 1012 = [] := by kernel_rfl
      rw [e]; intro q hq; cases hq) n
set_option maxRecDepth 100000 in
theorem matrix_clear.eq (k : Nat) (a : RT [.ptr, .sl, (.int .i64)]) (h : H) : (fun a h => matrix_clear.f k (a.1) (a.2.1) (a.2.2) h) a h = kfun Try.prog (matrix_clear.T k) (matrix_clear.an k) (RT [.bool] × H) Try.f54 (encL [.ptr, .sl, (.int .i64)] a) h (fun vs h' => (decL [.bool] vs).bind fun x => some (x, h')) := by kernel_rfl
set_option maxRecDepth 100000 in
theorem matrix_clear.told {C : FuncId → Bool} {X : CallF} (hX : XOk C X) (k : Nat) : Den.Told Try.prog C X 54 [.ptr, .sl, (.int .i64)] [.bool] (fun a h => matrix_clear.f k (a.1) (a.2.1) (a.2.2) h) :=
  told_of fun a h q e => fn_of (c := matrix_clear.body) (matrix_clear.TS hX k) Try.func54 (by kernel_rfl) (hX.no 54 _ h (by decide))
    (by
      have e : need (matrix_clear.an k) matrix_clear.body 1 = [(Code.loop matrix_clear.c506, lrun [(0, .ptr), (1, .sl), (5, .ptr), (8, (.int .u8)), (56, (.int .i64)), (57, (.int .i64))] none [] 0 (fun a h => matrix_clear.l0 k k (a.1) (a.2.1) (a.2.2.1) (a.2.2.2.1) (a.2.2.2.2.1) (a.2.2.2.2.2) h)), (Code.loop matrix_clear.c1018, lrun [(0, .ptr), (1, .sl), (5, .ptr), (77, .sl), (78, (.int .i64)), (79, (.int .i64))] none [] 2 (fun a h => matrix_clear.l1 k k (a.1) (a.2.1) (a.2.2.1) (a.2.2.2.1) (a.2.2.2.2.1) (a.2.2.2.2.2) h))] := by kernel_rfl
      rw [e]; intro q hq
      rcases List.mem_cons.1 hq with rfl | hq
      · exact matrix_clear.l0_pass hX k k
      rcases List.mem_cons.1 hq with rfl | hq
      · exact matrix_clear.l1_pass hX k k
      cases hq)
    ((matrix_clear.eq k a h).symm.trans e)
/-! ### slices.Clone[[]byte,byte] -/
noncomputable def slices_Clone_byte_byte.f (k : Nat) (a0 : Sl) (h : H) : Option ((Sl) × H) :=
  (asB (binO1 Try.prog .eql 40 (Value.slice a0.a a0.n a0.c) (Value.slice none 0 0))).bind fun b1 =>
    cond b1
      (some ((⟨none, 0, 0⟩ : Sl), h))
      ((asS2 (apv 5 1 1 (Value.slice (some ⟨h.next, 0, none⟩) 0 0) (Value.slice a0.a a0.n a0.c) (newR h 5 1 []))).bind fun q2 =>
    some (q2.1, q2.2))
noncomputable def slices_Clone_byte_byte.T (k : Nat) : Tbl := tblOf []
noncomputable def slices_Clone_byte_byte.an (k : Nat) (p : Nat) : Option Ann := none
noncomputable def slices_Clone_byte_byte.body : Code := (Try.f55.body).getD .skip
set_option maxRecDepth 100000 in
theorem slices_Clone_byte_byte.TS {C : FuncId → Bool} {X : CallF} (hX : XOk C X) (k : Nat) : TblS Try.prog C X (slices_Clone_byte_byte.T k) := by
  refine tblOf_sound ?_
  intro e he
  exact absurd he List.not_mem_nil
set_option maxRecDepth 100000 in
theorem slices_Clone_byte_byte.eq (k : Nat) (a : RT [.sl]) (h : H) : (fun a h => slices_Clone_byte_byte.f k a h) a h = kfun Try.prog (slices_Clone_byte_byte.T k) (slices_Clone_byte_byte.an k) (RT [.sl] × H) Try.f55 (encL [.sl] a) h (fun vs h' => (decL [.sl] vs).bind fun x => some (x, h')) := by kernel_rfl
set_option maxRecDepth 100000 in
theorem slices_Clone_byte_byte.told {C : FuncId → Bool} {X : CallF} (hX : XOk C X) (k : Nat) : Den.Told Try.prog C X 55 [.sl] [.sl] (fun a h => slices_Clone_byte_byte.f k a h) :=
  told_of fun a h q e => fn_of (c := slices_Clone_byte_byte.body) (slices_Clone_byte_byte.TS hX k) Try.func55 (by kernel_rfl) (hX.no 55 _ h (by decide))
    (by
      have e : need (slices_Clone_byte_byte.an k) slices_Clone_byte_byte.body 1 = [] := by kernel_rfl
      rw [e]; intro q hq; cases hq)
    ((slices_Clone_byte_byte.eq k a h).symm.trans e)
/-! ### corbel/matrix.Inverse -/
noncomputable def matrix_Inverse.l1 (k : Nat) (n : Nat) : Sl → Sl → Int → Sl → Int → H → Option ((Sl) × H) :=
  Nat.rec (motive := fun _ => Sl → Sl → Int → Sl → Int → H → Option ((Sl) × H)) (fun _ _ _ _ _ _ => none) (fun _ ih x18 x19 x20 x21 x22 h23 => cond (decide (x22 < x20))
      ((asP (ixs 1 x19.a x19.n x22)).bind fun p24 =>
    (asS (ldc h23 p24)).bind fun s25 =>
    (asS (subs 1 (Value.slice s25.a s25.n s25.c) (some (Int.ofNat x18.n)) none)).bind fun s26 =>
    (slices_Clone_byte_byte.f k s26 h23).bind fun q27 =>
    (asS2 (apv 40 1 24 (Value.slice x21.a x21.n x21.c) (Value.slice (some ⟨q27.2.next, 0, none⟩) 1 1) (newR q27.2 40 1 [(Value.slice q27.1.a q27.1.n q27.1.c)]))).bind fun q28 =>
    ih x18 x19 x20 q28.1 (wrapA .i64 (x22 + (1 : Int))) q28.2)
      (some (x21, h23))) n
theorem matrix_Inverse.l1_zero (k : Nat) (x18 : Sl) (x19 : Sl) (x20 : Int) (x21 : Sl) (x22 : Int) (h23 : H) : matrix_Inverse.l1 k 0 x18 x19 x20 x21 x22 h23 = none := rfl
theorem matrix_Inverse.l1_succ (k n : Nat) (x18 : Sl) (x19 : Sl) (x20 : Int) (x21 : Sl) (x22 : Int) (h23 : H) : matrix_Inverse.l1 k (n + 1) x18 x19 x20 x21 x22 h23 = (cond (decide (x22 < x20))
      ((asP (ixs 1 x19.a x19.n x22)).bind fun p24 =>
    (asS (ldc h23 p24)).bind fun s25 =>
    (asS (subs 1 (Value.slice s25.a s25.n s25.c) (some (Int.ofNat x18.n)) none)).bind fun s26 =>
    (slices_Clone_byte_byte.f k s26 h23).bind fun q27 =>
    (asS2 (apv 40 1 24 (Value.slice x21.a x21.n x21.c) (Value.slice (some ⟨q27.2.next, 0, none⟩) 1 1) (newR q27.2 40 1 [(Value.slice q27.1.a q27.1.n q27.1.c)]))).bind fun q28 =>
    matrix_Inverse.l1 k n x18 x19 x20 q28.1 (wrapA .i64 (x22 + (1 : Int))) q28.2)
      (some (x21, h23))) := rfl
noncomputable def matrix_Inverse.l0 (k : Nat) (n : Nat) : (Option Addr) → Sl → Sl → Int → Int → H → Option (((Sl × Bool) ⊕ (Unit)) × H) :=
  Nat.rec (motive := fun _ => (Option Addr) → Sl → Sl → Int → Int → H → Option (((Sl × Bool) ⊕ (Unit)) × H)) (fun _ _ _ _ _ _ => none) (fun _ ih x8 x9 x10 x11 x12 h13 => cond (decide (x12 < x11))
      ((matrix_clear.f k x8 x10 x12 h13).bind fun q14 =>
    cond (!q14.1)
      (some (Sum.inl ((⟨none, 0, 0⟩ : Sl), false), q14.2))
      (ih x8 x9 x10 x11 (wrapA .i64 (x12 + (1 : Int))) q14.2))
      (some (Sum.inr (), h13))) n
theorem matrix_Inverse.l0_zero (k : Nat) (x8 : Option Addr) (x9 : Sl) (x10 : Sl) (x11 : Int) (x12 : Int) (h13 : H) : matrix_Inverse.l0 k 0 x8 x9 x10 x11 x12 h13 = none := rfl
theorem matrix_Inverse.l0_succ (k n : Nat) (x8 : Option Addr) (x9 : Sl) (x10 : Sl) (x11 : Int) (x12 : Int) (h13 : H) : matrix_Inverse.l0 k (n + 1) x8 x9 x10 x11 x12 h13 = (cond (decide (x12 < x11))
      ((matrix_clear.f k x8 x10 x12 h13).bind fun q14 =>
    cond (!q14.1)
      (some (Sum.inl ((⟨none, 0, 0⟩ : Sl), false), q14.2))
      (matrix_Inverse.l0 k n x8 x9 x10 x11 (wrapA .i64 (x12 + (1 : Int))) q14.2))
      (some (Sum.inr (), h13))) := rfl
noncomputable def matrix_Inverse.f (k : Nat) (a0 : Option Addr) (a1 : Sl) (h : H) : Option ((Sl × Bool) × H) :=
  (asB (binO1 Try.prog .eql 22 (Value.pointer a0) (Value.pointer none))).bind fun b1 =>
    (cond b1 (some (true, h))
      ((matrix_Right.f k a1 h).bind fun q2 =>
    some (!q2.1, q2.2))).bind fun g3 =>
    (cond g3.1 (some (true, g3.2))
      ((asP (ixs 1 a1.a a1.n (0 : Int))).bind fun p4 =>
    (asS (ldc g3.2 p4)).bind fun s5 =>
    some ((Int.ofNat a1.n) != (Int.ofNat s5.n), g3.2))).bind fun g6 =>
    cond g6.1
      (some (((⟨none, 0, 0⟩ : Sl), false), g6.2))
      ((matrix_both.f k a1 g6.2).bind fun q7 =>
    (matrix_Inverse.l0 k k a0 a1 q7.1 (Int.ofNat q7.1.n) (0 : Int) q7.2).bind fun w15 =>
    match w15.1 with
    | .inl r16 => some ((r16.1, r16.2), w15.2)
    | .inr o17 => (matrix_Inverse.l1 k k a1 q7.1 (Int.ofNat q7.1.n) (⟨none, 0, 0⟩ : Sl) (0 : Int) w15.2).bind fun w29 =>
    some ((w29.1, true), w29.2))
noncomputable def matrix_Inverse.T (k : Nat) : Tbl := tblOf [⟨34, anyArgs, wr [.sl] [.bool] (fun a h => matrix_Right.f k a h)⟩,
  ⟨53, anyArgs, wr [.sl] [.sl] (fun a h => matrix_both.f k a h)⟩,
  ⟨54, anyArgs, wr [.ptr, .sl, (.int .i64)] [.bool] (fun a h => matrix_clear.f k (a.1) (a.2.1) (a.2.2) h)⟩,
  ⟨55, anyArgs, wr [.sl] [.sl] (fun a h => slices_Clone_byte_byte.f k a h)⟩]
noncomputable def matrix_Inverse.an (k : Nat) (p : Nat) : Option Ann := cond (Nat.beq p 506) (some (.pass [] (lrun [(1, .sl), (40, .sl), (41, (.int .i64)), (8, .sl), (42, (.int .i64))] none [(8, .sl)] 2 (fun a h => matrix_Inverse.l1 k k (a.1) (a.2.1) (a.2.2.1) (a.2.2.2.1) (a.2.2.2.2) h))))
  (cond (Nat.beq p 122) (some (.pass [1, 6] (lrun [(0, .ptr), (1, .sl), (6, .sl), (30, (.int .i64)), (31, (.int .i64))] (some [(4, .sl), (5, .bool)]) [] 0 (fun a h => matrix_Inverse.l0 k k (a.1) (a.2.1) (a.2.2.1) (a.2.2.2.1) (a.2.2.2.2) h))))
  (none))
noncomputable def matrix_Inverse.body : Code := (Try.f30.body).getD .skip
noncomputable def matrix_Inverse.c122 : Code := cat matrix_Inverse.body [1, 1, 1, 0, 1, 0, 0]
noncomputable def matrix_Inverse.c506 : Code := cat matrix_Inverse.body [1, 1, 1, 1, 1, 0, 1, 0, 0]
set_option maxRecDepth 100000 in
theorem matrix_Inverse.TS {C : FuncId → Bool} {X : CallF} (hX : XOk C X) (k : Nat) : TblS Try.prog C X (matrix_Inverse.T k) := by
  refine tblOf_sound ?_
  intro e he
  rcases List.mem_cons.1 he with rfl | he
  · exact wr_told (matrix_Right.told hX k)
  rcases List.mem_cons.1 he with rfl | he
  · exact wr_told (matrix_both.told hX k)
  rcases List.mem_cons.1 he with rfl | he
  · exact wr_told (matrix_clear.told hX k)
  rcases List.mem_cons.1 he with rfl | he
  · exact wr_told (slices_Clone_byte_byte.told hX k)
  exact absurd he List.not_mem_nil
set_option maxRecDepth 100000 in
theorem matrix_Inverse.l1_pass {C : FuncId → Bool} {X : CallF} (hX : XOk C X) (k n : Nat) : PassS Try.prog C X 56 (.loop matrix_Inverse.c506) (lrun [(1, .sl), (40, .sl), (41, (.int .i64)), (8, .sl), (42, (.int .i64))] none [(8, .sl)] 2 (fun a h => matrix_Inverse.l1 k n (a.1) (a.2.1) (a.2.2.1) (a.2.2.2.1) (a.2.2.2.2) h)) :=
  loop_pass (ins := [(1, .sl), (40, .sl), (41, (.int .i64)), (8, .sl), (42, (.int .i64))]) (rets := none) (outs := [(8, .sl)]) (id := 2) (tbl := matrix_Inverse.T k) (an := matrix_Inverse.an k) (pb := 1012) (matrix_Inverse.TS hX k) (fun n => (fun a h => matrix_Inverse.l1 k n (a.1) (a.2.1) (a.2.2.1) (a.2.2.2.1) (a.2.2.2.2) h)) (fun a h => rfl) (fun n a h => by kernel_rfl)
    (by
      have e : need (matrix_Inverse.an k) matrix_Inverse.c506 1012 = [] := by kernel_rfl
      rw [e]; intro q hq; cases hq) n
set_option maxRecDepth 100000 in
theorem matrix_Inverse.l0_pass {C : FuncId → Bool} {X : CallF} (hX : XOk C X) (k n : Nat) : PassS Try.prog C X 56 (.loop matrix_Inverse.c122) (lrun [(0, .ptr), (1, .sl), (6, .sl), (30, (.int .i64)), (31, (.int .i64))] (some [(4, .sl), (5, .bool)]) [] 0 (fun a h => matrix_Inverse.l0 k n (a.1) (a.2.1) (a.2.2.1) (a.2.2.2.1) (a.2.2.2.2) h)) :=
  loop_pass (ins := [(0, .ptr), (1, .sl), (6, .sl), (30, (.int .i64)), (31, (.int .i64))]) (rets := (some [(4, .sl), (5, .bool)])) (outs := []) (id := 0) (tbl := matrix_Inverse.T k) (an := matrix_Inverse.an k) (pb := 244) (matrix_Inverse.TS hX k) (fun n => (fun a h => matrix_Inverse.l0 k n (a.1) (a.2.1) (a.2.2.1) (a.2.2.2.1) (a.2.2.2.2) h)) (fun a h => rfl) (fun n a h => by kernel_rfl)
    (by
      have e : need (matrix_Inverse.an k) matrix_Inverse.c122 244 = [] := by kernel_rfl
      rw [e]; intro q hq; cases hq) n
set_option maxRecDepth 100000 in
theorem matrix_Inverse.eq (k : Nat) (a : RT [.ptr, .sl]) (h : H) : (fun a h => matrix_Inverse.f k (a.1) (a.2) h) a h = kfun Try.prog (matrix_Inverse.T k) (matrix_Inverse.an k) (RT [.sl, .bool] × H) Try.f30 (encL [.ptr, .sl] a) h (fun vs h' => (decL [.sl, .bool] vs).bind fun x => some (x, h')) := by kernel_rfl
set_option maxRecDepth 100000 in
theorem matrix_Inverse.told {C : FuncId → Bool} {X : CallF} (hX : XOk C X) (k : Nat) : Den.Told Try.prog C X 30 [.ptr, .sl] [.sl, .bool] (fun a h => matrix_Inverse.f k (a.1) (a.2) h) :=
  told_of fun a h q e => fn_of (c := matrix_Inverse.body) (matrix_Inverse.TS hX k) Try.func30 (by kernel_rfl) (hX.no 30 _ h (by decide))
    (by
      have e : need (matrix_Inverse.an k) matrix_Inverse.body 1 = [(Code.loop matrix_Inverse.c122, lrun [(0, .ptr), (1, .sl), (6, .sl), (30, (.int .i64)), (31, (.int .i64))] (some [(4, .sl), (5, .bool)]) [] 0 (fun a h => matrix_Inverse.l0 k k (a.1) (a.2.1) (a.2.2.1) (a.2.2.2.1) (a.2.2.2.2) h)), (Code.loop matrix_Inverse.c506, lrun [(1, .sl), (40, .sl), (41, (.int .i64)), (8, .sl), (42, (.int .i64))] none [(8, .sl)] 2 (fun a h => matrix_Inverse.l1 k k (a.1) (a.2.1) (a.2.2.1) (a.2.2.2.1) (a.2.2.2.2) h))] := by kernel_rfl
      rw [e]; intro q hq
      rcases List.mem_cons.1 hq with rfl | hq
      · exact matrix_Inverse.l0_pass hX k k
      rcases List.mem_cons.1 hq with rfl | hq
      · exact matrix_Inverse.l1_pass hX k k
      cases hq)
    ((matrix_Inverse.eq k a h).symm.trans e)
/-! ### slices.Equal[[]byte,byte] -/
noncomputable def slices_Equal_byte_byte.l0 (k : Nat) (n : Nat) : Sl → Sl → Int → Int → H → Option (((Bool) ⊕ (Unit)) × H) :=
  Nat.rec (motive := fun _ => Sl → Sl → Int → Int → H → Option (((Bool) ⊕ (Unit)) × H)) (fun _ _ _ _ _ => none) (fun _ ih x1 x2 x3 x4 h5 => cond (decide (x4 < x3))
      ((asP (ixs 1 x1.a x1.n x4)).bind fun p6 =>
    (asI .u8 (ldc h5 p6)).bind fun n7 =>
    (asP (ixs 1 x2.a x2.n x4)).bind fun p8 =>
    (asI .u8 (ldc h5 p8)).bind fun n9 =>
    cond (n7 != n9)
      (some (Sum.inl false, h5))
      (ih x1 x2 x3 (wrapA .i64 (x4 + (1 : Int))) h5))
      (some (Sum.inr (), h5))) n
theorem slices_Equal_byte_byte.l0_zero (k : Nat) (x1 : Sl) (x2 : Sl) (x3 : Int) (x4 : Int) (h5 : H) : slices_Equal_byte_byte.l0 k 0 x1 x2 x3 x4 h5 = none := rfl
theorem slices_Equal_byte_byte.l0_succ (k n : Nat) (x1 : Sl) (x2 : Sl) (x3 : Int) (x4 : Int) (h5 : H) : slices_Equal_byte_byte.l0 k (n + 1) x1 x2 x3 x4 h5 = (cond (decide (x4 < x3))
      ((asP (ixs 1 x1.a x1.n x4)).bind fun p6 =>
    (asI .u8 (ldc h5 p6)).bind fun n7 =>
    (asP (ixs 1 x2.a x2.n x4)).bind fun p8 =>
    (asI .u8 (ldc h5 p8)).bind fun n9 =>
    cond (n7 != n9)
      (some (Sum.inl false, h5))
      (slices_Equal_byte_byte.l0 k n x1 x2 x3 (wrapA .i64 (x4 + (1 : Int))) h5))
      (some (Sum.inr (), h5))) := rfl
noncomputable def slices_Equal_byte_byte.f (k : Nat) (a0 : Sl) (a1 : Sl) (h : H) : Option ((Bool) × H) :=
  cond ((Int.ofNat a0.n) != (Int.ofNat a1.n))
      (some (false, h))
      ((slices_Equal_byte_byte.l0 k k a0 a1 (Int.ofNat a0.n) (0 : Int) h).bind fun w10 =>
    match w10.1 with
    | .inl r11 => some (r11, w10.2)
    | .inr o12 => some (true, w10.2))
noncomputable def slices_Equal_byte_byte.T (k : Nat) : Tbl := tblOf []
noncomputable def slices_Equal_byte_byte.an (k : Nat) (p : Nat) : Option Ann := cond (Nat.beq p 58) (some (.pass [] (lrun [(0, .sl), (1, .sl), (12, (.int .i64)), (13, (.int .i64))] (some [(4, .bool)]) [] 0 (fun a h => slices_Equal_byte_byte.l0 k k (a.1) (a.2.1) (a.2.2.1) (a.2.2.2) h))))
  (none)
noncomputable def slices_Equal_byte_byte.body : Code := (Try.f58.body).getD .skip
noncomputable def slices_Equal_byte_byte.c58 : Code := cat slices_Equal_byte_byte.body [1, 1, 0, 1, 0, 0]
set_option maxRecDepth 100000 in
theorem slices_Equal_byte_byte.TS {C : FuncId → Bool} {X : CallF} (hX : XOk C X) (k : Nat) : TblS Try.prog C X (slices_Equal_byte_byte.T k) := by
  refine tblOf_sound ?_
  intro e he
  exact absurd he List.not_mem_nil
set_option maxRecDepth 100000 in
theorem slices_Equal_byte_byte.l0_pass {C : FuncId → Bool} {X : CallF} (hX : XOk C X) (k n : Nat) : PassS Try.prog C X 26 (.loop slices_Equal_byte_byte.c58) (lrun [(0, .sl), (1, .sl), (12, (.int .i64)), (13, (.int .i64))] (some [(4, .bool)]) [] 0 (fun a h => slices_Equal_byte_byte.l0 k n (a.1) (a.2.1) (a.2.2.1) (a.2.2.2) h)) :=
  loop_pass (ins := [(0, .sl), (1, .sl), (12, (.int .i64)), (13, (.int .i64))]) (rets := (some [(4, .bool)])) (outs := []) (id := 0) (tbl := slices_Equal_byte_byte.T k) (an := slices_Equal_byte_byte.an k) (pb := 116) (slices_Equal_byte_byte.TS hX k) (fun n => (fun a h => slices_Equal_byte_byte.l0 k n (a.1) (a.2.1) (a.2.2.1) (a.2.2.2) h)) (fun a h => rfl) (fun n a h => by kernel_rfl)
    (by
      have e : need (slices_Equal_byte_byte.an k) slices_Equal_byte_byte.c58 116 = [] := by kernel_rfl
      rw [e]; intro q hq; cases hq) n
set_option maxRecDepth 100000 in
theorem slices_Equal_byte_byte.eq (k : Nat) (a : RT [.sl, .sl]) (h : H) : (fun a h => slices_Equal_byte_byte.f k (a.1) (a.2) h) a h = kfun Try.prog (slices_Equal_byte_byte.T k) (slices_Equal_byte_byte.an k) (RT [.bool] × H) Try.f58 (encL [.sl, .sl] a) h (fun vs h' => (decL [.bool] vs).bind fun x => some (x, h')) := by kernel_rfl
set_option maxRecDepth 100000 in
theorem slices_Equal_byte_byte.told {C : FuncId → Bool} {X : CallF} (hX : XOk C X) (k : Nat) : Den.Told Try.prog C X 58 [.sl, .sl] [.bool] (fun a h => slices_Equal_byte_byte.f k (a.1) (a.2) h) :=
  told_of fun a h q e => fn_of (c := slices_Equal_byte_byte.body) (slices_Equal_byte_byte.TS hX k) Try.func58 (by kernel_rfl) (hX.no 58 _ h (by decide))
    (by
      have e : need (slices_Equal_byte_byte.an k) slices_Equal_byte_byte.body 1 = [(Code.loop slices_Equal_byte_byte.c58, lrun [(0, .sl), (1, .sl), (12, (.int .i64)), (13, (.int .i64))] (some [(4, .bool)]) [] 0 (fun a h => slices_Equal_byte_byte.l0 k k (a.1) (a.2.1) (a.2.2.1) (a.2.2.2) h))] := by kernel_rfl
      rw [e]; intro q hq
      rcases List.mem_cons.1 hq with rfl | hq
      · exact slices_Equal_byte_byte.l0_pass hX k k
      cases hq)
    ((slices_Equal_byte_byte.eq k a h).symm.trans e)
/-! ### corbel/matrix.Same$1 -/
noncomputable def matrix_Same_1.f (k : Nat) (a0 : Sl) (a1 : Sl) (h : H) : Option ((Bool) × H) :=
  (slices_Equal_byte_byte.f k a0 a1 h).bind fun q1 =>
    some (q1.1, q1.2)
noncomputable def matrix_Same_1.T (k : Nat) : Tbl := tblOf [⟨58, anyArgs, wr [.sl, .sl] [.bool] (fun a h => slices_Equal_byte_byte.f k (a.1) (a.2) h)⟩]
noncomputable def matrix_Same_1.an (k : Nat) (p : Nat) : Option Ann := none
noncomputable def matrix_Same_1.body : Code := (Try.f57.body).getD .skip
set_option maxRecDepth 100000 in
theorem matrix_Same_1.TS {C : FuncId → Bool} {X : CallF} (hX : XOk C X) (k : Nat) : TblS Try.prog C X (matrix_Same_1.T k) := by
  refine tblOf_sound ?_
  intro e he
  rcases List.mem_cons.1 he with rfl | he
  · exact wr_told (slices_Equal_byte_byte.told hX k)
  exact absurd he List.not_mem_nil
set_option maxRecDepth 100000 in
theorem matrix_Same_1.eq (k : Nat) (a : RT [.sl, .sl]) (h : H) : (fun a h => matrix_Same_1.f k (a.1) (a.2) h) a h = kfun Try.prog (matrix_Same_1.T k) (matrix_Same_1.an k) (RT [.bool] × H) Try.f57 (encL [.sl, .sl] a) h (fun vs h' => (decL [.bool] vs).bind fun x => some (x, h')) := by kernel_rfl
set_option maxRecDepth 100000 in
theorem matrix_Same_1.told {C : FuncId → Bool} {X : CallF} (hX : XOk C X) (k : Nat) : Den.Told Try.prog C X 57 [.sl, .sl] [.bool] (fun a h => matrix_Same_1.f k (a.1) (a.2) h) :=
  told_of fun a h q e => fn_of (c := matrix_Same_1.body) (matrix_Same_1.TS hX k) Try.func57 (by kernel_rfl) (hX.no 57 _ h (by decide))
    (by
      have e : need (matrix_Same_1.an k) matrix_Same_1.body 1 = [] := by kernel_rfl
      rw [e]; intro q hq; cases hq)
    ((matrix_Same_1.eq k a h).symm.trans e)
/-! ### slices.EqualFunc[[][]byte,[][]byte,[]byte,[]byte] -/
noncomputable def slices_EqualFunc_byte_byte_byte_byte_matrix_Same_1.l0 (k : Nat) (n : Nat) : Sl → Unit → Sl → Int → Int → H → Option (((Bool) ⊕ (Unit)) × H) :=
  Nat.rec (motive := fun _ => Sl → Unit → Sl → Int → Int → H → Option (((Bool) ⊕ (Unit)) × H)) (fun _ _ _ _ _ _ => none) (fun _ ih x1 x2 x3 x4 x5 h6 => cond (decide (x5 < x4))
      ((asP (ixs 1 x3.a x3.n x5)).bind fun p7 =>
    (asS (ldc h6 p7)).bind fun s8 =>
    (asP (ixs 1 x1.a x1.n x5)).bind fun p9 =>
    (asS (ldc h6 p9)).bind fun s10 =>
    (matrix_Same_1.f k s8 s10 h6).bind fun q11 =>
    cond (!q11.1)
      (some (Sum.inl false, q11.2))
      (ih x1 () x3 x4 (wrapA .i64 (x5 + (1 : Int))) q11.2))
      (some (Sum.inr (), h6))) n
theorem slices_EqualFunc_byte_byte_byte_byte_matrix_Same_1.l0_zero (k : Nat) (x1 : Sl) (x2 : Unit) (x3 : Sl) (x4 : Int) (x5 : Int) (h6 : H) : slices_EqualFunc_byte_byte_byte_byte_matrix_Same_1.l0 k 0 x1 x2 x3 x4 x5 h6 = none := rfl
theorem slices_EqualFunc_byte_byte_byte_byte_matrix_Same_1.l0_succ (k n : Nat) (x1 : Sl) (x2 : Unit) (x3 : Sl) (x4 : Int) (x5 : Int) (h6 : H) : slices_EqualFunc_byte_byte_byte_byte_matrix_Same_1.l0 k (n + 1) x1 x2 x3 x4 x5 h6 = (cond (decide (x5 < x4))
      ((asP (ixs 1 x3.a x3.n x5)).bind fun p7 =>
    (asS (ldc h6 p7)).bind fun s8 =>
    (asP (ixs 1 x1.a x1.n x5)).bind fun p9 =>
    (asS (ldc h6 p9)).bind fun s10 =>
    (matrix_Same_1.f k s8 s10 h6).bind fun q11 =>
    cond (!q11.1)
      (some (Sum.inl false, q11.2))
      (slices_EqualFunc_byte_byte_byte_byte_matrix_Same_1.l0 k n x1 () x3 x4 (wrapA .i64 (x5 + (1 : Int))) q11.2))
      (some (Sum.inr (), h6))) := rfl
noncomputable def slices_EqualFunc_byte_byte_byte_byte_matrix_Same_1.f (k : Nat) (a0 : Sl) (a1 : Sl) (a2 : Unit) (h : H) : Option ((Bool) × H) :=
  cond ((Int.ofNat a0.n) != (Int.ofNat a1.n))
      (some (false, h))
      ((slices_EqualFunc_byte_byte_byte_byte_matrix_Same_1.l0 k k a1 () a0 (Int.ofNat a0.n) (0 : Int) h).bind fun w12 =>
    match w12.1 with
    | .inl r13 => some (r13, w12.2)
    | .inr o14 => some (true, w12.2))
noncomputable def slices_EqualFunc_byte_byte_byte_byte_matrix_Same_1.T (k : Nat) : Tbl := tblOf [⟨57, anyArgs, wr [.sl, .sl] [.bool] (fun a h => matrix_Same_1.f k (a.1) (a.2) h)⟩]
noncomputable def slices_EqualFunc_byte_byte_byte_byte_matrix_Same_1.an (k : Nat) (p : Nat) : Option Ann := cond (Nat.beq p 58) (some (.pass [] (lrun [(1, .sl), (2, (.fn 57 0)), (15, .sl), (16, (.int .i64)), (17, (.int .i64))] (some [(6, .bool)]) [] 0 (fun a h => slices_EqualFunc_byte_byte_byte_byte_matrix_Same_1.l0 k k (a.1) (a.2.1) (a.2.2.1) (a.2.2.2.1) (a.2.2.2.2) h))))
  (none)
noncomputable def slices_EqualFunc_byte_byte_byte_byte_matrix_Same_1.body : Code := (Try.f56.body).getD .skip
noncomputable def slices_EqualFunc_byte_byte_byte_byte_matrix_Same_1.c58 : Code := cat slices_EqualFunc_byte_byte_byte_byte_matrix_Same_1.body [1, 1, 0, 1, 0, 0]
set_option maxRecDepth 100000 in
theorem slices_EqualFunc_byte_byte_byte_byte_matrix_Same_1.TS {C : FuncId → Bool} {X : CallF} (hX : XOk C X) (k : Nat) : TblS Try.prog C X (slices_EqualFunc_byte_byte_byte_byte_matrix_Same_1.T k) := by
  refine tblOf_sound ?_
  intro e he
  rcases List.mem_cons.1 he with rfl | he
  · exact wr_told (matrix_Same_1.told hX k)
  exact absurd he List.not_mem_nil
set_option maxRecDepth 100000 in
theorem slices_EqualFunc_byte_byte_byte_byte_matrix_Same_1.l0_pass {C : FuncId → Bool} {X : CallF} (hX : XOk C X) (k n : Nat) : PassS Try.prog C X 32 (.loop slices_EqualFunc_byte_byte_byte_byte_matrix_Same_1.c58) (lrun [(1, .sl), (2, (.fn 57 0)), (15, .sl), (16, (.int .i64)), (17, (.int .i64))] (some [(6, .bool)]) [] 0 (fun a h => slices_EqualFunc_byte_byte_byte_byte_matrix_Same_1.l0 k n (a.1) (a.2.1) (a.2.2.1) (a.2.2.2.1) (a.2.2.2.2) h)) :=
  loop_pass (ins := [(1, .sl), (2, (.fn 57 0)), (15, .sl), (16, (.int .i64)), (17, (.int .i64))]) (rets := (some [(6, .bool)])) (outs := []) (id := 0) (tbl := slices_EqualFunc_byte_byte_byte_byte_matrix_Same_1.T k) (an := slices_EqualFunc_byte_byte_byte_byte_matrix_Same_1.an k) (pb := 116) (slices_EqualFunc_byte_byte_byte_byte_matrix_Same_1.TS hX k) (fun n => (fun a h => slices_EqualFunc_byte_byte_byte_byte_matrix_Same_1.l0 k n (a.1) (a.2.1) (a.2.2.1) (a.2.2.2.1) (a.2.2.2.2) h)) (fun a h => rfl) (fun n a h => by kernel_rfl)
    (by
      have e : need (slices_EqualFunc_byte_byte_byte_byte_matrix_Same_1.an k) slices_EqualFunc_byte_byte_byte_byte_matrix_Same_1.c58 116 = [] := by kernel_rfl
      rw [e]; intro q hq; cases hq) n
set_option maxRecDepth 100000 in
theorem slices_EqualFunc_byte_byte_byte_byte_matrix_Same_1.eq (k : Nat) (a : RT [.sl, .sl, (.fn 57 0)]) (h : H) : (fun a h => slices_EqualFunc_byte_byte_byte_byte_matrix_Same_1.f k (a.1) (a.2.1) (a.2.2) h) a h = kfun Try.prog (slices_EqualFunc_byte_byte_byte_byte_matrix_Same_1.T k) (slices_EqualFunc_byte_byte_byte_byte_matrix_Same_1.an k) (RT [.bool] × H) Try.f56 (encL [.sl, .sl, (.fn 57 0)] a) h (fun vs h' => (decL [.bool] vs).bind fun x => some (x, h')) := by kernel_rfl
set_option maxRecDepth 100000 in
theorem slices_EqualFunc_byte_byte_byte_byte_matrix_Same_1.told {C : FuncId → Bool} {X : CallF} (hX : XOk C X) (k : Nat) : Den.Told Try.prog C X 56 [.sl, .sl, (.fn 57 0)] [.bool] (fun a h => slices_EqualFunc_byte_byte_byte_byte_matrix_Same_1.f k (a.1) (a.2.1) (a.2.2) h) :=
  told_of fun a h q e => fn_of (c := slices_EqualFunc_byte_byte_byte_byte_matrix_Same_1.body) (slices_EqualFunc_byte_byte_byte_byte_matrix_Same_1.TS hX k) Try.func56 (by kernel_rfl) (hX.no 56 _ h (by decide))
    (by
      have e : need (slices_EqualFunc_byte_byte_byte_byte_matrix_Same_1.an k) slices_EqualFunc_byte_byte_byte_byte_matrix_Same_1.body 1 = [(Code.loop slices_EqualFunc_byte_byte_byte_byte_matrix_Same_1.c58, lrun [(1, .sl), (2, (.fn 57 0)), (15, .sl), (16, (.int .i64)), (17, (.int .i64))] (some [(6, .bool)]) [] 0 (fun a h => slices_EqualFunc_byte_byte_byte_byte_matrix_Same_1.l0 k k (a.1) (a.2.1) (a.2.2.1) (a.2.2.2.1) (a.2.2.2.2) h))] := by kernel_rfl
      rw [e]; intro q hq
      rcases List.mem_cons.1 hq with rfl | hq
      · exact slices_EqualFunc_byte_byte_byte_byte_matrix_Same_1.l0_pass hX k k
      cases hq)
    ((slices_EqualFunc_byte_byte_byte_byte_matrix_Same_1.eq k a h).symm.trans e)
/-! ### corbel/matrix.Same -/
noncomputable def matrix_Same.f (k : Nat) (a0 : Sl) (a1 : Sl) (h : H) : Option ((Bool) × H) :=
  (slices_EqualFunc_byte_byte_byte_byte_matrix_Same_1.f k a0 a1 () h).bind fun q1 =>
    some (q1.1, q1.2)
noncomputable def matrix_Same.T (k : Nat) : Tbl := tblOf [⟨56, chkF [(2, 57)], wr [.sl, .sl, (.fn 57 0)] [.bool] (fun a h => slices_EqualFunc_byte_byte_byte_byte_matrix_Same_1.f k (a.1) (a.2.1) (a.2.2) h)⟩]
noncomputable def matrix_Same.an (k : Nat) (p : Nat) : Option Ann := none
noncomputable def matrix_Same.body : Code := (Try.f32.body).getD .skip
set_option maxRecDepth 100000 in
theorem matrix_Same.TS {C : FuncId → Bool} {X : CallF} (hX : XOk C X) (k : Nat) : TblS Try.prog C X (matrix_Same.T k) := by
  refine tblOf_sound ?_
  intro e he
  rcases List.mem_cons.1 he with rfl | he
  · exact wr_told (slices_EqualFunc_byte_byte_byte_byte_matrix_Same_1.told hX k)
  exact absurd he List.not_mem_nil
set_option maxRecDepth 100000 in
theorem matrix_Same.eq (k : Nat) (a : RT [.sl, .sl]) (h : H) : (fun a h => matrix_Same.f k (a.1) (a.2) h) a h = kfun Try.prog (matrix_Same.T k) (matrix_Same.an k) (RT [.bool] × H) Try.f32 (encL [.sl, .sl] a) h (fun vs h' => (decL [.bool] vs).bind fun x => some (x, h')) := by kernel_rfl
set_option maxRecDepth 100000 in
theorem matrix_Same.told {C : FuncId → Bool} {X : CallF} (hX : XOk C X) (k : Nat) : Den.Told Try.prog C X 32 [.sl, .sl] [.bool] (fun a h => matrix_Same.f k (a.1) (a.2) h) :=
  told_of fun a h q e => fn_of (c := matrix_Same.body) (matrix_Same.TS hX k) Try.func32 (by kernel_rfl) (hX.no 32 _ h (by decide))
    (by
      have e : need (matrix_Same.an k) matrix_Same.body 1 = [] := by kernel_rfl
      rw [e]; intro q hq; cases hq)
    ((matrix_Same.eq k a h).symm.trans e)
/-! ### (*corbel/field.Field).Exp -/
noncomputable def field_Field_Exp.f (k : Nat) (a0 : Option Addr) (a1 : Int) (h : H) : Option ((Int) × H) :=
  (asP (nilA (Value.pointer a0))).bind fun p1 =>
    (asP (fadd 0 p1)).bind fun p2 =>
    (asP (ixs 1 p2 255 ((wrapA .i64 ((a1.tmod (255 : Int)) + (255 : Int))).tmod (255 : Int)))).bind fun p3 =>
    (asI .u8 (ldc h p3)).bind fun n4 =>
    some (n4, h)
noncomputable def field_Field_Exp.T (k : Nat) : Tbl := tblOf []
noncomputable def field_Field_Exp.an (k : Nat) (p : Nat) : Option Ann := none
noncomputable def field_Field_Exp.body : Code := (Try.f20.body).getD .skip
set_option maxRecDepth 100000 in
theorem field_Field_Exp.TS {C : FuncId → Bool} {X : CallF} (hX : XOk C X) (k : Nat) : TblS Try.prog C X (field_Field_Exp.T k) := by
  refine tblOf_sound ?_
  intro e he
  exact absurd he List.not_mem_nil
set_option maxRecDepth 100000 in
theorem field_Field_Exp.eq (k : Nat) (a : RT [.ptr, (.int .i64)]) (h : H) : (fun a h => field_Field_Exp.f k (a.1) (a.2) h) a h = kfun Try.prog (field_Field_Exp.T k) (field_Field_Exp.an k) (RT [(.int .u8)] × H) Try.f20 (encL [.ptr, (.int .i64)] a) h (fun vs h' => (decL [(.int .u8)] vs).bind fun x => some (x, h')) := by kernel_rfl
set_option maxRecDepth 100000 in
theorem field_Field_Exp.told {C : FuncId → Bool} {X : CallF} (hX : XOk C X) (k : Nat) : Den.Told Try.prog C X 20 [.ptr, (.int .i64)] [(.int .u8)] (fun a h => field_Field_Exp.f k (a.1) (a.2) h) :=
  told_of fun a h q e => fn_of (c := field_Field_Exp.body) (field_Field_Exp.TS hX k) Try.func20 (by kernel_rfl) (hX.no 20 _ h (by decide))
    (by
      have e : need (field_Field_Exp.an k) field_Field_Exp.body 1 = [] := by kernel_rfl
      rw [e]; intro q hq; cases hq)
    ((field_Field_Exp.eq k a h).symm.trans e)
/-! ### corbel/coder.New -/
noncomputable def coder_New.l0 (k : Nat) (n : Nat) : (Option Addr) → Sl → Sl → Int → H → Option ((Unit) × H) :=
  Nat.rec (motive := fun _ => (Option Addr) → Sl → Sl → Int → H → Option ((Unit) × H)) (fun _ _ _ _ _ => none) (fun _ ih x3 x4 x5 x6 h7 => cond (decide (x6 < (4 : Int)))
      ((asP (nilA (Value.pointer x3))).bind fun p8 =>
    (asP (fadd 0 p8)).bind fun p9 =>
    (asP (ldc h7 p9)).bind fun p10 =>
    (field_Field_Exp.f k p10 x6 h7).bind fun q11 =>
    (asP (ixs 1 x4.a x4.n x6)).bind fun p12 =>
    (stv 1 q11.2 p12 [(Value.int .u8 (1 : Int))]).bind fun q13 =>
    (asP (ixs 1 x5.a x5.n x6)).bind fun p14 =>
    (stv 1 q13.2 p14 [(Value.int .u8 q11.1)]).bind fun q15 =>
    ih x3 x4 x5 (wrapA .i64 (x6 + (1 : Int))) q15.2)
      (some ((), h7))) n
theorem coder_New.l0_zero (k : Nat) (x3 : Option Addr) (x4 : Sl) (x5 : Sl) (x6 : Int) (h7 : H) : coder_New.l0 k 0 x3 x4 x5 x6 h7 = none := rfl
theorem coder_New.l0_succ (k n : Nat) (x3 : Option Addr) (x4 : Sl) (x5 : Sl) (x6 : Int) (h7 : H) : coder_New.l0 k (n + 1) x3 x4 x5 x6 h7 = (cond (decide (x6 < (4 : Int)))
      ((asP (nilA (Value.pointer x3))).bind fun p8 =>
    (asP (fadd 0 p8)).bind fun p9 =>
    (asP (ldc h7 p9)).bind fun p10 =>
    (field_Field_Exp.f k p10 x6 h7).bind fun q11 =>
    (asP (ixs 1 x4.a x4.n x6)).bind fun p12 =>
    (stv 1 q11.2 p12 [(Value.int .u8 (1 : Int))]).bind fun q13 =>
    (asP (ixs 1 x5.a x5.n x6)).bind fun p14 =>
    (stv 1 q13.2 p14 [(Value.int .u8 q11.1)]).bind fun q15 =>
    coder_New.l0 k n x3 x4 x5 (wrapA .i64 (x6 + (1 : Int))) q15.2)
      (some ((), h7))) := rfl
noncomputable def coder_New.f (k : Nat) (h : H) : Option ((Option Addr) × H) :=
  (field_New.f k h).bind fun q1 =>
    (matrix_Identity.f k (4 : Int) q1.2).bind fun q2 =>
    (coder_New.l0 k k (some ⟨q2.2.next, 0, none⟩) (⟨(some ⟨(newR q2.2 85 2 [(Value.pointer q1.1), (Value.slice q2.1.a q2.1.n q2.1.c)]).next, 0, none⟩), 4, 4⟩ : Sl) (⟨(some ⟨(newZ (newR q2.2 85 2 [(Value.pointer q1.1), (Value.slice q2.1.a q2.1.n q2.1.c)]) 5 1 [(Value.int .u8 (0 : Int))] 4).next, 0, none⟩), 4, 4⟩ : Sl) (0 : Int) (newZ (newZ (newR q2.2 85 2 [(Value.pointer q1.1), (Value.slice q2.1.a q2.1.n q2.1.c)]) 5 1 [(Value.int .u8 (0 : Int))] 4) 5 1 [(Value.int .u8 (0 : Int))] 4)).bind fun w16 =>
    (asS (ldc w16.2 (some ⟨q2.2.next, 1, none⟩))).bind fun s17 =>
    (asS2 (apv 40 1 24 (Value.slice s17.a s17.n s17.c) (Value.slice (some ⟨w16.2.next, 0, none⟩) 2 2) (newR w16.2 40 1 [(Value.slice (some ⟨(newR q2.2 85 2 [(Value.pointer q1.1), (Value.slice q2.1.a q2.1.n q2.1.c)]).next, 0, none⟩) 4 4), (Value.slice (some ⟨(newZ (newR q2.2 85 2 [(Value.pointer q1.1), (Value.slice q2.1.a q2.1.n q2.1.c)]) 5 1 [(Value.int .u8 (0 : Int))] 4).next, 0, none⟩) 4 4)]))).bind fun q18 =>
    (stv 1 q18.2 (some ⟨q2.2.next, 1, none⟩) [(Value.slice q18.1.a q18.1.n q18.1.c)]).bind fun q19 =>
    some ((some ⟨q2.2.next, 0, none⟩), q19.2)
noncomputable def coder_New.T (k : Nat) : Tbl := tblOf [⟨18, anyArgs, wr [] [.ptr] (fun a h => field_New.f k h)⟩,
  ⟨33, anyArgs, wr [(.int .i64)] [.sl] (fun a h => matrix_Identity.f k a h)⟩,
  ⟨20, anyArgs, wr [.ptr, (.int .i64)] [(.int .u8)] (fun a h => field_Field_Exp.f k (a.1) (a.2) h)⟩]
noncomputable def coder_New.an (k : Nat) (p : Nat) : Option Ann := cond (Nat.beq p 122) (some (.pass [1, 2, 3] (lrun [(1, .ptr), (2, .sl), (3, .sl), (11, (.int .i64))] none [] 0 (fun a h => coder_New.l0 k k (a.1) (a.2.1) (a.2.2.1) (a.2.2.2) h))))
  (none)
noncomputable def coder_New.body : Code := (Try.f42.body).getD .skip
noncomputable def coder_New.c122 : Code := cat coder_New.body [1, 1, 1, 0, 1, 0, 0]
set_option maxRecDepth 100000 in
theorem coder_New.TS {C : FuncId → Bool} {X : CallF} (hX : XOk C X) (k : Nat) : TblS Try.prog C X (coder_New.T k) := by
  refine tblOf_sound ?_
  intro e he
  rcases List.mem_cons.1 he with rfl | he
  · exact wr_told (field_New.told hX k)
  rcases List.mem_cons.1 he with rfl | he
  · exact wr_told (matrix_Identity.told hX k)
  rcases List.mem_cons.1 he with rfl | he
  · exact wr_told (field_Field_Exp.told hX k)
  exact absurd he List.not_mem_nil
set_option maxRecDepth 100000 in
theorem coder_New.l0_pass {C : FuncId → Bool} {X : CallF} (hX : XOk C X) (k n : Nat) : PassS Try.prog C X 39 (.loop coder_New.c122) (lrun [(1, .ptr), (2, .sl), (3, .sl), (11, (.int .i64))] none [] 0 (fun a h => coder_New.l0 k n (a.1) (a.2.1) (a.2.2.1) (a.2.2.2) h)) :=
  loop_pass (ins := [(1, .ptr), (2, .sl), (3, .sl), (11, (.int .i64))]) (rets := none) (outs := []) (id := 0) (tbl := coder_New.T k) (an := coder_New.an k) (pb := 244) (coder_New.TS hX k) (fun n => (fun a h => coder_New.l0 k n (a.1) (a.2.1) (a.2.2.1) (a.2.2.2) h)) (fun a h => rfl) (fun n a h => by kernel_rfl)
    (by
      have e : need (coder_New.an k) coder_New.c122 244 = [] := by kernel_rfl
      rw [e]; intro q hq; cases hq) n
set_option maxRecDepth 100000 in
theorem coder_New.eq (k : Nat) (a : RT []) (h : H) : (fun a h => coder_New.f k h) a h = kfun Try.prog (coder_New.T k) (coder_New.an k) (RT [.ptr] × H) Try.f42 (encL [] a) h (fun vs h' => (decL [.ptr] vs).bind fun x => some (x, h')) := by kernel_rfl
set_option maxRecDepth 100000 in
theorem coder_New.told {C : FuncId → Bool} {X : CallF} (hX : XOk C X) (k : Nat) : Den.Told Try.prog C X 42 [] [.ptr] (fun a h => coder_New.f k h) :=
  told_of fun a h q e => fn_of (c := coder_New.body) (coder_New.TS hX k) Try.func42 (by kernel_rfl) (hX.no 42 _ h (by decide))
    (by
      have e : need (coder_New.an k) coder_New.body 1 = [(Code.loop coder_New.c122, lrun [(1, .ptr), (2, .sl), (3, .sl), (11, (.int .i64))] none [] 0 (fun a h => coder_New.l0 k k (a.1) (a.2.1) (a.2.2.1) (a.2.2.2) h))] := by kernel_rfl
      rw [e]; intro q hq
      rcases List.mem_cons.1 hq with rfl | hq
      · exact coder_New.l0_pass hX k k
      cases hq)
    ((coder_New.eq k a h).symm.trans e)
/-! ### slices.Chunk[[]byte,byte] -/
noncomputable def slices_Chunk_byte_byte.f (k : Nat) (a0 : Sl) (a1 : Int) (h : H) : Option ((Option Addr × Option Addr) × H) :=
  (asI .i64 (ldc (newR (newR h 40 1 [(Value.slice a0.a a0.n a0.c)]) 3 1 [(Value.int .i64 a1)]) (some ⟨(newR h 40 1 [(Value.slice a0.a a0.n a0.c)]).next, 0, none⟩))).bind fun n1 =>
    (cond (decide (n1 < (1 : Int)))
      (none)
      (some ((), (newR (newR h 40 1 [(Value.slice a0.a a0.n a0.c)]) 3 1 [(Value.int .i64 a1)]))) : Option ((Unit) × H)).bind fun j2 =>
    some (((some ⟨h.next, 0, none⟩), (some ⟨(newR h 40 1 [(Value.slice a0.a a0.n a0.c)]).next, 0, none⟩)), j2.2)
noncomputable def slices_Chunk_byte_byte.T (k : Nat) : Tbl := tblOf []
noncomputable def slices_Chunk_byte_byte.an (k : Nat) (p : Nat) : Option Ann := cond (Nat.beq p 13) (some (.join [2, 3] none []))
  (none)
noncomputable def slices_Chunk_byte_byte.body : Code := (Try.f70.body).getD .skip
set_option maxRecDepth 100000 in
theorem slices_Chunk_byte_byte.TS {C : FuncId → Bool} {X : CallF} (hX : XOk C X) (k : Nat) : TblS Try.prog C X (slices_Chunk_byte_byte.T k) := by
  refine tblOf_sound ?_
  intro e he
  exact absurd he List.not_mem_nil
set_option maxRecDepth 100000 in
theorem slices_Chunk_byte_byte.eq (k : Nat) (a : RT [.sl, (.int .i64)]) (h : H) : (fun a h => slices_Chunk_byte_byte.f k (a.1) (a.2) h) a h = kfun Try.prog (slices_Chunk_byte_byte.T k) (slices_Chunk_byte_byte.an k) (RT [(.fn 72 2)] × H) Try.f70 (encL [.sl, (.int .i64)] a) h (fun vs h' => (decL [(.fn 72 2)] vs).bind fun x => some (x, h')) := by kernel_rfl
set_option maxRecDepth 100000 in
theorem slices_Chunk_byte_byte.told {C : FuncId → Bool} {X : CallF} (hX : XOk C X) (k : Nat) : Den.Told Try.prog C X 70 [.sl, (.int .i64)] [(.fn 72 2)] (fun a h => slices_Chunk_byte_byte.f k (a.1) (a.2) h) :=
  told_of fun a h q e => fn_of (c := slices_Chunk_byte_byte.body) (slices_Chunk_byte_byte.TS hX k) Try.func70 (by kernel_rfl) (hX.no 70 _ h (by decide))
    (by
      have e : need (slices_Chunk_byte_byte.an k) slices_Chunk_byte_byte.body 1 = [] := by kernel_rfl
      rw [e]; intro q hq; cases hq)
    ((slices_Chunk_byte_byte.eq k a h).symm.trans e)
/-! ### corbel/coder.parts -/
noncomputable def coder_parts.l0 (k : Nat) (n : Nat) : (Option Addr) → ChI → Nat → Nat → Nat → H → H → Option H :=
  Nat.rec (motive := fun _ => (Option Addr) → ChI → Nat → Nat → Nat → H → H → Option H) (fun _ _ _ _ _ _ _ => none) (fun _ ih x2 c b o i w h => cond (Nat.ble c.len (i * c.n)) (some h) ((asS (ldc h x2)).bind fun s3 =>
    (asS2 (apv 40 1 24 (Value.slice s3.a s3.n s3.c) (Value.slice (some ⟨h.next, 0, none⟩) 1 1) (newR h 40 1 [(Value.slice (some ⟨b, o + i * c.n, none⟩) (Nat.min c.n (c.len - i * c.n)) (Nat.min c.n (c.len - i * c.n)))]))).bind fun q4 =>
    (stv 1 q4.2 x2 [(Value.slice q4.1.a q4.1.n q4.1.c)]).bind fun q5 =>
    cond (sameVer w q5.2 c.bs && sameVer w q5.2 c.bn) (ih x2 c b o (i + 1) w q5.2) none)) n
theorem coder_parts.l0_zero (k : Nat) (x2 : Option Addr) (c : ChI) (b : Nat) (o : Nat) (i : Nat) (w : H) (h : H) : coder_parts.l0 k 0 x2 c b o i w h = none := rfl
theorem coder_parts.l0_succ (k n : Nat) (x2 : Option Addr) (c : ChI) (b : Nat) (o : Nat) (i : Nat) (w : H) (h : H) : coder_parts.l0 k (n + 1) x2 c b o i w h = (cond (Nat.ble c.len (i * c.n)) (some h) ((asS (ldc h x2)).bind fun s3 =>
    (asS2 (apv 40 1 24 (Value.slice s3.a s3.n s3.c) (Value.slice (some ⟨h.next, 0, none⟩) 1 1) (newR h 40 1 [(Value.slice (some ⟨b, o + i * c.n, none⟩) (Nat.min c.n (c.len - i * c.n)) (Nat.min c.n (c.len - i * c.n)))]))).bind fun q4 =>
    (stv 1 q4.2 x2 [(Value.slice q4.1.a q4.1.n q4.1.c)]).bind fun q5 =>
    cond (sameVer w q5.2 c.bs && sameVer w q5.2 c.bn) (coder_parts.l0 k n x2 c b o (i + 1) w q5.2) none)) := rfl
noncomputable def coder_parts.f (k : Nat) (a0 : Sl) (h : H) : Option ((Sl) × H) :=
  (slices_Chunk_byte_byte.f k a0 (32 : Int) (newR h 37 1 [(Value.slice none 0 0)])).bind fun q1 =>
    (chInfo q1.2 (q1.1.1, q1.1.2)).bind fun c7 =>
    (chGo (fun b0 o0 w0 h0 => coder_parts.l0 k k (some ⟨h.next, 0, none⟩) c7 b0 o0 0 w0 h0) c7 q1.2).bind fun h6 =>
    (asS (ldc h6 (some ⟨h.next, 0, none⟩))).bind fun s8 =>
    some (s8, h6)
noncomputable def coder_parts.T (k : Nat) : Tbl := tblOf [⟨70, anyArgs, wr [.sl, (.int .i64)] [(.fn 72 2)] (fun a h => slices_Chunk_byte_byte.f k (a.1) (a.2) h)⟩]
noncomputable def coder_parts.an (k : Nat) (p : Nat) : Option Ann := cond (Nat.beq p 58) (some (.pass [3] (chRun 72 (.tmp 6) [(3, .ptr)] (fun a c b o w h => (fun a c b o i w h => coder_parts.l0 k k a c b o i w h) a c b o 0 w h))))
  (none)
noncomputable def coder_parts.body : Code := (Try.f64.body).getD .skip
noncomputable def coder_parts.c116 : Code := cat coder_parts.body [1, 1, 0, 1, 0, 0]
noncomputable def coder_parts.c117 : Code := cat coder_parts.body [1, 1, 0, 1, 0, 1]
set_option maxRecDepth 100000 in
theorem coder_parts.TS {C : FuncId → Bool} {X : CallF} (hX : XOk C X) (k : Nat) : TblS Try.prog C X (coder_parts.T k) := by
  refine tblOf_sound ?_
  intro e he
  rcases List.mem_cons.1 he with rfl | he
  · exact wr_told (slices_Chunk_byte_byte.told hX k)
  exact absurd he List.not_mem_nil
set_option maxRecDepth 100000 in
theorem coder_parts.l0_pass {C : FuncId → Bool} {X : CallF} (hX : XOk C X) (k n : Nat) : PassS Try.prog C X 13 (Code.rangeFunc (.tmp 6) #[7] coder_parts.c116 coder_parts.c117) (chRun 72 (.tmp 6) [(3, .ptr)] (fun a c b o w h => (fun a c b o i w h => coder_parts.l0 k n a c b o i w h) a c b o 0 w h)) :=
  chunk_pass (ins := [(3, .ptr)]) (ck := 72) (tbl := coder_parts.T k) (an := coder_parts.an k) (pa := 116) (pb := 117) (coder_parts.TS hX k) (hX.chunk 72 rfl) (by kernel_rfl) rfl (fun n => (fun a c b o i w h => coder_parts.l0 k n a c b o i w h)) (fun a c b o i w h => rfl) (fun n a c b o i w h => by kernel_rfl)
    (by
      have e : need (coder_parts.an k) coder_parts.c116 116 = [] := by kernel_rfl
      rw [e]; intro q hq; cases hq)
    (by
      have e : need (coder_parts.an k) coder_parts.c117 117 = [] := by kernel_rfl
      rw [e]; intro q hq; cases hq) n
set_option maxRecDepth 100000 in
theorem coder_parts.eq (k : Nat) (a : RT [.sl]) (h : H) : (fun a h => coder_parts.f k a h) a h = kfun Try.prog (coder_parts.T k) (coder_parts.an k) (RT [.sl] × H) Try.f64 (encL [.sl] a) h (fun vs h' => (decL [.sl] vs).bind fun x => some (x, h')) := by kernel_rfl
set_option maxRecDepth 100000 in
theorem coder_parts.told {C : FuncId → Bool} {X : CallF} (hX : XOk C X) (k : Nat) : Den.Told Try.prog C X 64 [.sl] [.sl] (fun a h => coder_parts.f k a h) :=
  told_of fun a h q e => fn_of (c := coder_parts.body) (coder_parts.TS hX k) Try.func64 (by kernel_rfl) (hX.no 64 _ h (by decide))
    (by
      have e : need (coder_parts.an k) coder_parts.body 1 = [((Code.rangeFunc (.tmp 6) #[7] coder_parts.c116 coder_parts.c117), (chRun 72 (.tmp 6) [(3, .ptr)] (fun a c b o w h => (fun a c b o i w h => coder_parts.l0 k k a c b o i w h) a c b o 0 w h)))] := by kernel_rfl
      rw [e]; intro q hq
      rcases List.mem_cons.1 hq with rfl | hq
      · exact coder_parts.l0_pass hX k k
      cases hq)
    ((coder_parts.eq k a h).symm.trans e)
/-! ### (*corbel/coder.Coder).Encode -/
noncomputable def coder_Coder_Encode.f (k : Nat) (a0 : Option Addr) (a1 : Sl) (h : H) : Option ((Sl × Int) × H) :=
  cond ((Int.ofNat a1.n) != (128 : Int))
      (some (((⟨none, 0, 0⟩ : Sl), (1 : Int)), h))
      ((asP (nilA (Value.pointer a0))).bind fun p1 =>
    (asP (fadd 0 p1)).bind fun p2 =>
    (asP (ldc h p2)).bind fun p3 =>
    (asP (nilA (Value.pointer a0))).bind fun p4 =>
    (asP (fadd 1 p4)).bind fun p5 =>
    (asS (ldc h p5)).bind fun s6 =>
    (coder_parts.f k a1 h).bind fun q7 =>
    (matrix_Mul.f k p3 s6 q7.1 q7.2).bind fun q8 =>
    cond (same1 h q7.2 (some (Value.pointer p2)) && (same1 h q7.2 (some (Value.pointer p5)) && (true))) (some ((q8.1, (0 : Int)), q8.2)) none)
noncomputable def coder_Coder_Encode.T (k : Nat) : Tbl := tblOf [⟨64, anyArgs, wr [.sl] [.sl] (fun a h => coder_parts.f k a h)⟩,
  ⟨35, anyArgs, wr [.ptr, .sl, .sl] [.sl] (fun a h => matrix_Mul.f k (a.1) (a.2.1) (a.2.2) h)⟩]
noncomputable def coder_Coder_Encode.an (k : Nat) (p : Nat) : Option Ann := none
noncomputable def coder_Coder_Encode.body : Code := (Try.f45.body).getD .skip
set_option maxRecDepth 100000 in
theorem coder_Coder_Encode.TS {C : FuncId → Bool} {X : CallF} (hX : XOk C X) (k : Nat) : TblS Try.prog C X (coder_Coder_Encode.T k) := by
  refine tblOf_sound ?_
  intro e he
  rcases List.mem_cons.1 he with rfl | he
  · exact wr_told (coder_parts.told hX k)
  rcases List.mem_cons.1 he with rfl | he
  · exact wr_told (matrix_Mul.told hX k)
  exact absurd he List.not_mem_nil
set_option maxRecDepth 100000 in
theorem coder_Coder_Encode.eq (k : Nat) (a : RT [.ptr, .sl]) (h : H) : (fun a h => coder_Coder_Encode.f k (a.1) (a.2) h) a h = kfun Try.prog (coder_Coder_Encode.T k) (coder_Coder_Encode.an k) (RT [.sl, (.int .i64)] × H) Try.f45 (encL [.ptr, .sl] a) h (fun vs h' => (decL [.sl, (.int .i64)] vs).bind fun x => some (x, h')) := by kernel_rfl
set_option maxRecDepth 100000 in
theorem coder_Coder_Encode.told {C : FuncId → Bool} {X : CallF} (hX : XOk C X) (k : Nat) : Den.Told Try.prog C X 45 [.ptr, .sl] [.sl, (.int .i64)] (fun a h => coder_Coder_Encode.f k (a.1) (a.2) h) :=
  told_of fun a h q e => fn_of (c := coder_Coder_Encode.body) (coder_Coder_Encode.TS hX k) Try.func45 (by kernel_rfl) (hX.no 45 _ h (by decide))
    (by
      have e : need (coder_Coder_Encode.an k) coder_Coder_Encode.body 1 = [] := by kernel_rfl
      rw [e]; intro q hq; cases hq)
    ((coder_Coder_Encode.eq k a h).symm.trans e)
/-! ### (*corbel/coder.Coder).Decode$1 -/
noncomputable def coder_Coder_Decode_1.f (k : Nat) (a0 : Sl) (h : H) : Option ((Bool) × H) :=
  (cond ((Int.ofNat a0.n) != (0 : Int)) (some ((Int.ofNat a0.n) != (32 : Int), h))
      (some (false, h))).bind fun g1 =>
    some (g1.1, g1.2)
noncomputable def coder_Coder_Decode_1.T (k : Nat) : Tbl := tblOf []
noncomputable def coder_Coder_Decode_1.an (k : Nat) (p : Nat) : Option Ann := none
noncomputable def coder_Coder_Decode_1.body : Code := (Try.f66.body).getD .skip
set_option maxRecDepth 100000 in
theorem coder_Coder_Decode_1.TS {C : FuncId → Bool} {X : CallF} (hX : XOk C X) (k : Nat) : TblS Try.prog C X (coder_Coder_Decode_1.T k) := by
  refine tblOf_sound ?_
  intro e he
  exact absurd he List.not_mem_nil
set_option maxRecDepth 100000 in
theorem coder_Coder_Decode_1.eq (k : Nat) (a : RT [.sl]) (h : H) : (fun a h => coder_Coder_Decode_1.f k a h) a h = kfun Try.prog (coder_Coder_Decode_1.T k) (coder_Coder_Decode_1.an k) (RT [.bool] × H) Try.f66 (encL [.sl] a) h (fun vs h' => (decL [.bool] vs).bind fun x => some (x, h')) := by kernel_rfl
set_option maxRecDepth 100000 in
theorem coder_Coder_Decode_1.told {C : FuncId → Bool} {X : CallF} (hX : XOk C X) (k : Nat) : Den.Told Try.prog C X 66 [.sl] [.bool] (fun a h => coder_Coder_Decode_1.f k a h) :=
  told_of fun a h q e => fn_of (c := coder_Coder_Decode_1.body) (coder_Coder_Decode_1.TS hX k) Try.func66 (by kernel_rfl) (hX.no 66 _ h (by decide))
    (by
      have e : need (coder_Coder_Decode_1.an k) coder_Coder_Decode_1.body 1 = [] := by kernel_rfl
      rw [e]; intro q hq; cases hq)
    ((coder_Coder_Decode_1.eq k a h).symm.trans e)
/-! ### slices.IndexFunc[[][]byte,[]byte] -/
noncomputable def slices_IndexFunc_byte_byte_coder_Coder_Decode_1.l0 (k : Nat) (n : Nat) : Sl → Unit → Int → Int → H → Option (((Int) ⊕ (Unit)) × H) :=
  Nat.rec (motive := fun _ => Sl → Unit → Int → Int → H → Option (((Int) ⊕ (Unit)) × H)) (fun _ _ _ _ _ => none) (fun _ ih x1 x2 x3 x4 h5 => cond (decide (x4 < x3))
      ((asP (ixs 1 x1.a x1.n x4)).bind fun p6 =>
    (asS (ldc h5 p6)).bind fun s7 =>
    (coder_Coder_Decode_1.f k s7 h5).bind fun q8 =>
    cond q8.1
      (some (Sum.inl x4, q8.2))
      (ih x1 () x3 (wrapA .i64 (x4 + (1 : Int))) q8.2))
      (some (Sum.inr (), h5))) n
theorem slices_IndexFunc_byte_byte_coder_Coder_Decode_1.l0_zero (k : Nat) (x1 : Sl) (x2 : Unit) (x3 : Int) (x4 : Int) (h5 : H) : slices_IndexFunc_byte_byte_coder_Coder_Decode_1.l0 k 0 x1 x2 x3 x4 h5 = none := rfl
theorem slices_IndexFunc_byte_byte_coder_Coder_Decode_1.l0_succ (k n : Nat) (x1 : Sl) (x2 : Unit) (x3 : Int) (x4 : Int) (h5 : H) : slices_IndexFunc_byte_byte_coder_Coder_Decode_1.l0 k (n + 1) x1 x2 x3 x4 h5 = (cond (decide (x4 < x3))
      ((asP (ixs 1 x1.a x1.n x4)).bind fun p6 =>
    (asS (ldc h5 p6)).bind fun s7 =>
    (coder_Coder_Decode_1.f k s7 h5).bind fun q8 =>
    cond q8.1
      (some (Sum.inl x4, q8.2))
      (slices_IndexFunc_byte_byte_coder_Coder_Decode_1.l0 k n x1 () x3 (wrapA .i64 (x4 + (1 : Int))) q8.2))
      (some (Sum.inr (), h5))) := rfl
noncomputable def slices_IndexFunc_byte_byte_coder_Coder_Decode_1.f (k : Nat) (a0 : Sl) (a1 : Unit) (h : H) : Option ((Int) × H) :=
  (slices_IndexFunc_byte_byte_coder_Coder_Decode_1.l0 k k a0 () (Int.ofNat a0.n) (0 : Int) h).bind fun w9 =>
    match w9.1 with
    | .inl r10 => some (r10, w9.2)
    | .inr o11 => some ((-1 : Int), w9.2)
noncomputable def slices_IndexFunc_byte_byte_coder_Coder_Decode_1.T (k : Nat) : Tbl := tblOf [⟨66, anyArgs, wr [.sl] [.bool] (fun a h => coder_Coder_Decode_1.f k a h)⟩]
noncomputable def slices_IndexFunc_byte_byte_coder_Coder_Decode_1.an (k : Nat) (p : Nat) : Option Ann := cond (Nat.beq p 26) (some (.pass [] (lrun [(0, .sl), (1, (.fn 66 0)), (7, (.int .i64)), (8, (.int .i64))] (some [(4, (.int .i64))]) [] 0 (fun a h => slices_IndexFunc_byte_byte_coder_Coder_Decode_1.l0 k k (a.1) (a.2.1) (a.2.2.1) (a.2.2.2) h))))
  (none)
noncomputable def slices_IndexFunc_byte_byte_coder_Coder_Decode_1.body : Code := (Try.f68.body).getD .skip
noncomputable def slices_IndexFunc_byte_byte_coder_Coder_Decode_1.c26 : Code := cat slices_IndexFunc_byte_byte_coder_Coder_Decode_1.body [1, 0, 1, 0, 0]
set_option maxRecDepth 100000 in
theorem slices_IndexFunc_byte_byte_coder_Coder_Decode_1.TS {C : FuncId → Bool} {X : CallF} (hX : XOk C X) (k : Nat) : TblS Try.prog C X (slices_IndexFunc_byte_byte_coder_Coder_Decode_1.T k) := by
  refine tblOf_sound ?_
  intro e he
  rcases List.mem_cons.1 he with rfl | he
  · exact wr_told (coder_Coder_Decode_1.told hX k)
  exact absurd he List.not_mem_nil
set_option maxRecDepth 100000 in
theorem slices_IndexFunc_byte_byte_coder_Coder_Decode_1.l0_pass {C : FuncId → Bool} {X : CallF} (hX : XOk C X) (k n : Nat) : PassS Try.prog C X 19 (.loop slices_IndexFunc_byte_byte_coder_Coder_Decode_1.c26) (lrun [(0, .sl), (1, (.fn 66 0)), (7, (.int .i64)), (8, (.int .i64))] (some [(4, (.int .i64))]) [] 0 (fun a h => slices_IndexFunc_byte_byte_coder_Coder_Decode_1.l0 k n (a.1) (a.2.1) (a.2.2.1) (a.2.2.2) h)) :=
  loop_pass (ins := [(0, .sl), (1, (.fn 66 0)), (7, (.int .i64)), (8, (.int .i64))]) (rets := (some [(4, (.int .i64))])) (outs := []) (id := 0) (tbl := slices_IndexFunc_byte_byte_coder_Coder_Decode_1.T k) (an := slices_IndexFunc_byte_byte_coder_Coder_Decode_1.an k) (pb := 52) (slices_IndexFunc_byte_byte_coder_Coder_Decode_1.TS hX k) (fun n => (fun a h => slices_IndexFunc_byte_byte_coder_Coder_Decode_1.l0 k n (a.1) (a.2.1) (a.2.2.1) (a.2.2.2) h)) (fun a h => rfl) (fun n a h => by kernel_rfl)
    (by
      have e : need (slices_IndexFunc_byte_byte_coder_Coder_Decode_1.an k) slices_IndexFunc_byte_byte_coder_Coder_Decode_1.c26 52 = [] := by kernel_rfl
      rw [e]; intro q hq; cases hq) n
set_option maxRecDepth 100000 in
theorem slices_IndexFunc_byte_byte_coder_Coder_Decode_1.eq (k : Nat) (a : RT [.sl, (.fn 66 0)]) (h : H) : (fun a h => slices_IndexFunc_byte_byte_coder_Coder_Decode_1.f k (a.1) (a.2) h) a h = kfun Try.prog (slices_IndexFunc_byte_byte_coder_Coder_Decode_1.T k) (slices_IndexFunc_byte_byte_coder_Coder_Decode_1.an k) (RT [(.int .i64)] × H) Try.f68 (encL [.sl, (.fn 66 0)] a) h (fun vs h' => (decL [(.int .i64)] vs).bind fun x => some (x, h')) := by kernel_rfl
set_option maxRecDepth 100000 in
theorem slices_IndexFunc_byte_byte_coder_Coder_Decode_1.told {C : FuncId → Bool} {X : CallF} (hX : XOk C X) (k : Nat) : Den.Told Try.prog C X 68 [.sl, (.fn 66 0)] [(.int .i64)] (fun a h => slices_IndexFunc_byte_byte_coder_Coder_Decode_1.f k (a.1) (a.2) h) :=
  told_of fun a h q e => fn_of (c := slices_IndexFunc_byte_byte_coder_Coder_Decode_1.body) (slices_IndexFunc_byte_byte_coder_Coder_Decode_1.TS hX k) Try.func68 (by kernel_rfl) (hX.no 68 _ h (by decide))
    (by
      have e : need (slices_IndexFunc_byte_byte_coder_Coder_Decode_1.an k) slices_IndexFunc_byte_byte_coder_Coder_Decode_1.body 1 = [(Code.loop slices_IndexFunc_byte_byte_coder_Coder_Decode_1.c26, lrun [(0, .sl), (1, (.fn 66 0)), (7, (.int .i64)), (8, (.int .i64))] (some [(4, (.int .i64))]) [] 0 (fun a h => slices_IndexFunc_byte_byte_coder_Coder_Decode_1.l0 k k (a.1) (a.2.1) (a.2.2.1) (a.2.2.2) h))] := by kernel_rfl
      rw [e]; intro q hq
      rcases List.mem_cons.1 hq with rfl | hq
      · exact slices_IndexFunc_byte_byte_coder_Coder_Decode_1.l0_pass hX k k
      cases hq)
    ((slices_IndexFunc_byte_byte_coder_Coder_Decode_1.eq k a h).symm.trans e)
/-! ### slices.ContainsFunc[[][]byte,[]byte] -/
noncomputable def slices_ContainsFunc_byte_byte_coder_Coder_Decode_1.f (k : Nat) (a0 : Sl) (a1 : Unit) (h : H) : Option ((Bool) × H) :=
  (slices_IndexFunc_byte_byte_coder_Coder_Decode_1.f k a0 () h).bind fun q1 =>
    some (decide (q1.1 ≥ (0 : Int)), q1.2)
noncomputable def slices_ContainsFunc_byte_byte_coder_Coder_Decode_1.T (k : Nat) : Tbl := tblOf [⟨68, chkF [(1, 66)], wr [.sl, (.fn 66 0)] [(.int .i64)] (fun a h => slices_IndexFunc_byte_byte_coder_Coder_Decode_1.f k (a.1) (a.2) h)⟩]
noncomputable def slices_ContainsFunc_byte_byte_coder_Coder_Decode_1.an (k : Nat) (p : Nat) : Option Ann := none
noncomputable def slices_ContainsFunc_byte_byte_coder_Coder_Decode_1.body : Code := (Try.f59.body).getD .skip
set_option maxRecDepth 100000 in
theorem slices_ContainsFunc_byte_byte_coder_Coder_Decode_1.TS {C : FuncId → Bool} {X : CallF} (hX : XOk C X) (k : Nat) : TblS Try.prog C X (slices_ContainsFunc_byte_byte_coder_Coder_Decode_1.T k) := by
  refine tblOf_sound ?_
  intro e he
  rcases List.mem_cons.1 he with rfl | he
  · exact wr_told (slices_IndexFunc_byte_byte_coder_Coder_Decode_1.told hX k)
  exact absurd he List.not_mem_nil
set_option maxRecDepth 100000 in
theorem slices_ContainsFunc_byte_byte_coder_Coder_Decode_1.eq (k : Nat) (a : RT [.sl, (.fn 66 0)]) (h : H) : (fun a h => slices_ContainsFunc_byte_byte_coder_Coder_Decode_1.f k (a.1) (a.2) h) a h = kfun Try.prog (slices_ContainsFunc_byte_byte_coder_Coder_Decode_1.T k) (slices_ContainsFunc_byte_byte_coder_Coder_Decode_1.an k) (RT [.bool] × H) Try.f59 (encL [.sl, (.fn 66 0)] a) h (fun vs h' => (decL [.bool] vs).bind fun x => some (x, h')) := by kernel_rfl
set_option maxRecDepth 100000 in
theorem slices_ContainsFunc_byte_byte_coder_Coder_Decode_1.told {C : FuncId → Bool} {X : CallF} (hX : XOk C X) (k : Nat) : Den.Told Try.prog C X 59 [.sl, (.fn 66 0)] [.bool] (fun a h => slices_ContainsFunc_byte_byte_coder_Coder_Decode_1.f k (a.1) (a.2) h) :=
  told_of fun a h q e => fn_of (c := slices_ContainsFunc_byte_byte_coder_Coder_Decode_1.body) (slices_ContainsFunc_byte_byte_coder_Coder_Decode_1.TS hX k) Try.func59 (by kernel_rfl) (hX.no 59 _ h (by decide))
    (by
      have e : need (slices_ContainsFunc_byte_byte_coder_Coder_Decode_1.an k) slices_ContainsFunc_byte_byte_coder_Coder_Decode_1.body 1 = [] := by kernel_rfl
      rw [e]; intro q hq; cases hq)
    ((slices_ContainsFunc_byte_byte_coder_Coder_Decode_1.eq k a h).symm.trans e)
/-! ### (*corbel/coder.Coder).Decode -/
noncomputable def coder_Coder_Decode.l0 (k : Nat) (n : Nat) : (Option Addr) → Sl → Int → Sl → Sl → Int → H → Option ((Sl × Sl) × H) :=
  Nat.rec (motive := fun _ => (Option Addr) → Sl → Int → Sl → Sl → Int → H → Option ((Sl × Sl) × H)) (fun _ _ _ _ _ _ _ => none) (fun _ ih x3 x4 x5 x6 x7 x8 h9 => cond (decide (x8 < x5))
      ((asP (ixs 1 x4.a x4.n x8)).bind fun p10 =>
    (asS (ldc h9 p10)).bind fun s11 =>
    (cond (decide ((Int.ofNat s11.n) > (0 : Int))) (some (decide ((Int.ofNat x7.n) < (4 : Int)), h9))
      (some (false, h9))).bind fun g12 =>
    (cond g12.1
      ((asP (nilA (Value.pointer x3))).bind fun p13 =>
    (asP (fadd 1 p13)).bind fun p14 =>
    (asS (ldc g12.2 p14)).bind fun s15 =>
    (asP (ixs 1 s15.a s15.n x8)).bind fun p16 =>
    (asS (ldc g12.2 p16)).bind fun s17 =>
    (asS2 (apv 40 1 24 (Value.slice x6.a x6.n x6.c) (Value.slice (some ⟨g12.2.next, 0, none⟩) 1 1) (newR g12.2 40 1 [(Value.slice s17.a s17.n s17.c)]))).bind fun q18 =>
    (asS2 (apv 40 1 24 (Value.slice x7.a x7.n x7.c) (Value.slice (some ⟨q18.2.next, 0, none⟩) 1 1) (newR q18.2 40 1 [(Value.slice s11.a s11.n s11.c)]))).bind fun q19 =>
    some ((q18.1, q19.1), q19.2))
      (some ((x6, x7), g12.2)) : Option ((Sl × Sl) × H)).bind fun j20 =>
    ih x3 x4 x5 j20.1.1 j20.1.2 (wrapA .i64 (x8 + (1 : Int))) j20.2)
      (some ((x6, x7), h9))) n
theorem coder_Coder_Decode.l0_zero (k : Nat) (x3 : Option Addr) (x4 : Sl) (x5 : Int) (x6 : Sl) (x7 : Sl) (x8 : Int) (h9 : H) : coder_Coder_Decode.l0 k 0 x3 x4 x5 x6 x7 x8 h9 = none := rfl
theorem coder_Coder_Decode.l0_succ (k n : Nat) (x3 : Option Addr) (x4 : Sl) (x5 : Int) (x6 : Sl) (x7 : Sl) (x8 : Int) (h9 : H) : coder_Coder_Decode.l0 k (n + 1) x3 x4 x5 x6 x7 x8 h9 = (cond (decide (x8 < x5))
      ((asP (ixs 1 x4.a x4.n x8)).bind fun p10 =>
    (asS (ldc h9 p10)).bind fun s11 =>
    (cond (decide ((Int.ofNat s11.n) > (0 : Int))) (some (decide ((Int.ofNat x7.n) < (4 : Int)), h9))
      (some (false, h9))).bind fun g12 =>
    (cond g12.1
      ((asP (nilA (Value.pointer x3))).bind fun p13 =>
    (asP (fadd 1 p13)).bind fun p14 =>
    (asS (ldc g12.2 p14)).bind fun s15 =>
    (asP (ixs 1 s15.a s15.n x8)).bind fun p16 =>
    (asS (ldc g12.2 p16)).bind fun s17 =>
    (asS2 (apv 40 1 24 (Value.slice x6.a x6.n x6.c) (Value.slice (some ⟨g12.2.next, 0, none⟩) 1 1) (newR g12.2 40 1 [(Value.slice s17.a s17.n s17.c)]))).bind fun q18 =>
    (asS2 (apv 40 1 24 (Value.slice x7.a x7.n x7.c) (Value.slice (some ⟨q18.2.next, 0, none⟩) 1 1) (newR q18.2 40 1 [(Value.slice s11.a s11.n s11.c)]))).bind fun q19 =>
    some ((q18.1, q19.1), q19.2))
      (some ((x6, x7), g12.2)) : Option ((Sl × Sl) × H)).bind fun j20 =>
    coder_Coder_Decode.l0 k n x3 x4 x5 j20.1.1 j20.1.2 (wrapA .i64 (x8 + (1 : Int))) j20.2)
      (some ((x6, x7), h9))) := rfl
noncomputable def coder_Coder_Decode.f (k : Nat) (a0 : Option Addr) (a1 : Sl) (h : H) : Option ((Sl × Bool) × H) :=
  (slices_ContainsFunc_byte_byte_coder_Coder_Decode_1.f k a1 () h).bind fun q1 =>
    (cond ((Int.ofNat a1.n) != (6 : Int)) (some (true, q1.2))
      (some (q1.1, q1.2))).bind fun g2 =>
    cond g2.1
      (some (((⟨none, 0, 0⟩ : Sl), false), g2.2))
      ((coder_Coder_Decode.l0 k k a0 a1 (Int.ofNat a1.n) (⟨none, 0, 0⟩ : Sl) (⟨none, 0, 0⟩ : Sl) (0 : Int) g2.2).bind fun w21 =>
    (asP (nilA (Value.pointer a0))).bind fun p22 =>
    (asP (fadd 0 p22)).bind fun p23 =>
    (asP (ldc w21.2 p23)).bind fun p24 =>
    (matrix_Inverse.f k p24 w21.1.1 w21.2).bind fun q25 =>
    (cond (!q25.1.2) (some (true, q25.2))
      (some (decide ((Int.ofNat w21.1.2.n) < (4 : Int)), q25.2))).bind fun g26 =>
    cond g26.1
      (some (((⟨none, 0, 0⟩ : Sl), false), g26.2))
      ((asP (nilA (Value.pointer a0))).bind fun p27 =>
    (asP (fadd 0 p27)).bind fun p28 =>
    (asP (ldc g26.2 p28)).bind fun p29 =>
    (matrix_Mul.f k p29 q25.1.1 w21.1.2 g26.2).bind fun q30 =>
    (slices_Concat_byte_byte.f k q30.1 q30.2).bind fun q31 =>
    some ((q31.1, true), q31.2)))
noncomputable def coder_Coder_Decode.T (k : Nat) : Tbl := tblOf [⟨59, chkF [(1, 66)], wr [.sl, (.fn 66 0)] [.bool] (fun a h => slices_ContainsFunc_byte_byte_coder_Coder_Decode_1.f k (a.1) (a.2) h)⟩,
  ⟨30, anyArgs, wr [.ptr, .sl] [.sl, .bool] (fun a h => matrix_Inverse.f k (a.1) (a.2) h)⟩,
  ⟨35, anyArgs, wr [.ptr, .sl, .sl] [.sl] (fun a h => matrix_Mul.f k (a.1) (a.2.1) (a.2.2) h)⟩,
  ⟨67, anyArgs, wr [.sl] [.sl] (fun a h => slices_Concat_byte_byte.f k a h)⟩]
noncomputable def coder_Coder_Decode.an (k : Nat) (p : Nat) : Option Ann := cond (Nat.beq p 250) (some (.pass [0] (lrun [(0, .ptr), (21, .sl), (22, (.int .i64)), (7, .sl), (8, .sl), (23, (.int .i64))] none [(7, .sl), (8, .sl)] 0 (fun a h => coder_Coder_Decode.l0 k k (a.1) (a.2.1) (a.2.2.1) (a.2.2.2.1) (a.2.2.2.2.1) (a.2.2.2.2.2) h))))
  (cond (Nat.beq p 32051) (some (.join [0, 21, 22, 23] none [(7, .sl), (8, .sl)]))
  (none))
noncomputable def coder_Coder_Decode.body : Code := (Try.f49.body).getD .skip
noncomputable def coder_Coder_Decode.c250 : Code := cat coder_Coder_Decode.body [1, 1, 1, 1, 0, 1, 0, 0]
set_option maxRecDepth 100000 in
theorem coder_Coder_Decode.TS {C : FuncId → Bool} {X : CallF} (hX : XOk C X) (k : Nat) : TblS Try.prog C X (coder_Coder_Decode.T k) := by
  refine tblOf_sound ?_
  intro e he
  rcases List.mem_cons.1 he with rfl | he
  · exact wr_told (slices_ContainsFunc_byte_byte_coder_Coder_Decode_1.told hX k)
  rcases List.mem_cons.1 he with rfl | he
  · exact wr_told (matrix_Inverse.told hX k)
  rcases List.mem_cons.1 he with rfl | he
  · exact wr_told (matrix_Mul.told hX k)
  rcases List.mem_cons.1 he with rfl | he
  · exact wr_told (slices_Concat_byte_byte.told hX k)
  exact absurd he List.not_mem_nil
set_option maxRecDepth 100000 in
theorem coder_Coder_Decode.l0_pass {C : FuncId → Bool} {X : CallF} (hX : XOk C X) (k n : Nat) : PassS Try.prog C X 75 (.loop coder_Coder_Decode.c250) (lrun [(0, .ptr), (21, .sl), (22, (.int .i64)), (7, .sl), (8, .sl), (23, (.int .i64))] none [(7, .sl), (8, .sl)] 0 (fun a h => coder_Coder_Decode.l0 k n (a.1) (a.2.1) (a.2.2.1) (a.2.2.2.1) (a.2.2.2.2.1) (a.2.2.2.2.2) h)) :=
  loop_pass (ins := [(0, .ptr), (21, .sl), (22, (.int .i64)), (7, .sl), (8, .sl), (23, (.int .i64))]) (rets := none) (outs := [(7, .sl), (8, .sl)]) (id := 0) (tbl := coder_Coder_Decode.T k) (an := coder_Coder_Decode.an k) (pb := 500) (coder_Coder_Decode.TS hX k) (fun n => (fun a h => coder_Coder_Decode.l0 k n (a.1) (a.2.1) (a.2.2.1) (a.2.2.2.1) (a.2.2.2.2.1) (a.2.2.2.2.2) h)) (fun a h => rfl) (fun n a h => by kernel_rfl)
    (by
      have e : need (coder_Coder_Decode.an k) coder_Coder_Decode.c250 500 = [] := by kernel_rfl
      rw [e]; intro q hq; cases hq) n
set_option maxRecDepth 100000 in
theorem coder_Coder_Decode.eq (k : Nat) (a : RT [.ptr, .sl]) (h : H) : (fun a h => coder_Coder_Decode.f k (a.1) (a.2) h) a h = kfun Try.prog (coder_Coder_Decode.T k) (coder_Coder_Decode.an k) (RT [.sl, .bool] × H) Try.f49 (encL [.ptr, .sl] a) h (fun vs h' => (decL [.sl, .bool] vs).bind fun x => some (x, h')) := by kernel_rfl
set_option maxRecDepth 100000 in
theorem coder_Coder_Decode.told {C : FuncId → Bool} {X : CallF} (hX : XOk C X) (k : Nat) : Den.Told Try.prog C X 49 [.ptr, .sl] [.sl, .bool] (fun a h => coder_Coder_Decode.f k (a.1) (a.2) h) :=
  told_of fun a h q e => fn_of (c := coder_Coder_Decode.body) (coder_Coder_Decode.TS hX k) Try.func49 (by kernel_rfl) (hX.no 49 _ h (by decide))
    (by
      have e : need (coder_Coder_Decode.an k) coder_Coder_Decode.body 1 = [(Code.loop coder_Coder_Decode.c250, lrun [(0, .ptr), (21, .sl), (22, (.int .i64)), (7, .sl), (8, .sl), (23, (.int .i64))] none [(7, .sl), (8, .sl)] 0 (fun a h => coder_Coder_Decode.l0 k k (a.1) (a.2.1) (a.2.2.1) (a.2.2.2.1) (a.2.2.2.2.1) (a.2.2.2.2.2) h))] := by kernel_rfl
      rw [e]; intro q hq
      rcases List.mem_cons.1 hq with rfl | hq
      · exact coder_Coder_Decode.l0_pass hX k k
      cases hq)
    ((coder_Coder_Decode.eq k a h).symm.trans e)
/-! ### (*corbel/coder.Coder).Check -/
noncomputable def coder_Coder_Check.f (k : Nat) (a0 : Option Addr) (a1 : Sl) (h : H) : Option ((Bool) × H) :=
  (coder_Coder_Decode.f k a0 a1 h).bind fun q1 =>
    cond (!q1.1.2)
      (some (false, q1.2))
      ((coder_Coder_Encode.f k a0 q1.1.1 q1.2).bind fun q2 =>
    (matrix_Same.f k q2.1.1 a1 q2.2).bind fun q3 =>
    some (q3.1, q3.2))
noncomputable def coder_Coder_Check.T (k : Nat) : Tbl := tblOf [⟨49, anyArgs, wr [.ptr, .sl] [.sl, .bool] (fun a h => coder_Coder_Decode.f k (a.1) (a.2) h)⟩,
  ⟨45, anyArgs, wr [.ptr, .sl] [.sl, (.int .i64)] (fun a h => coder_Coder_Encode.f k (a.1) (a.2) h)⟩,
  ⟨32, anyArgs, wr [.sl, .sl] [.bool] (fun a h => matrix_Same.f k (a.1) (a.2) h)⟩]
noncomputable def coder_Coder_Check.an (k : Nat) (p : Nat) : Option Ann := none
noncomputable def coder_Coder_Check.body : Code := (Try.f51.body).getD .skip
set_option maxRecDepth 100000 in
theorem coder_Coder_Check.TS {C : FuncId → Bool} {X : CallF} (hX : XOk C X) (k : Nat) : TblS Try.prog C X (coder_Coder_Check.T k) := by
  refine tblOf_sound ?_
  intro e he
  rcases List.mem_cons.1 he with rfl | he
  · exact wr_told (coder_Coder_Decode.told hX k)
  rcases List.mem_cons.1 he with rfl | he
  · exact wr_told (coder_Coder_Encode.told hX k)
  rcases List.mem_cons.1 he with rfl | he
  · exact wr_told (matrix_Same.told hX k)
  exact absurd he List.not_mem_nil
set_option maxRecDepth 100000 in
theorem coder_Coder_Check.eq (k : Nat) (a : RT [.ptr, .sl]) (h : H) : (fun a h => coder_Coder_Check.f k (a.1) (a.2) h) a h = kfun Try.prog (coder_Coder_Check.T k) (coder_Coder_Check.an k) (RT [.bool] × H) Try.f51 (encL [.ptr, .sl] a) h (fun vs h' => (decL [.bool] vs).bind fun x => some (x, h')) := by kernel_rfl
set_option maxRecDepth 100000 in
theorem coder_Coder_Check.told {C : FuncId → Bool} {X : CallF} (hX : XOk C X) (k : Nat) : Den.Told Try.prog C X 51 [.ptr, .sl] [.bool] (fun a h => coder_Coder_Check.f k (a.1) (a.2) h) :=
  told_of fun a h q e => fn_of (c := coder_Coder_Check.body) (coder_Coder_Check.TS hX k) Try.func51 (by kernel_rfl) (hX.no 51 _ h (by decide))
    (by
      have e : need (coder_Coder_Check.an k) coder_Coder_Check.body 1 = [] := by kernel_rfl
      rw [e]; intro q hq; cases hq)
    ((coder_Coder_Check.eq k a h).symm.trans e)
/-! ### (*corbel/coder.Coder).Delta -/
end Go.Proofs.Ytnjeafdbifcfhaa.Fwd
