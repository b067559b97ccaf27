/- Forward runs of functions of the program, printed by a program of this session: each function on plain values and memory, and that the code comes to it. No condition. -/
import Derived.Test.YtnjeafdbifcfhaaDenZ
import Derived.KernelRfl
import Derived.Test.YtnjeafdbifcfhaaPaFCod
import Derived.Test.YtnjeafdbifcfhaaPaFF
namespace Go.Proofs.Ytnjeafdbifcfhaa.Fwd
open Go Den
set_option linter.unusedVariables false
/-! ### corbel/corbellaw4.of -/
noncomputable def corbellaw4_of.l1 (k : Nat) (n : Nat) : Int → Int → Sl → Sl → Int → Sl → Int → H → Option ((Unit) × H) :=
  Nat.rec (motive := fun _ => Int → Int → Sl → Sl → Int → Sl → Int → H → Option ((Unit) × H)) (fun _ _ _ _ _ _ _ _ => none) (fun _ ih x8 x9 x10 x11 x12 x13 x14 h15 => cond (decide (x14 < x9))
      ((cond (decide ((wrapA .i64 ((wrapA .i64 (x12 * x9)) + x14)) < (Int.ofNat x10.n)))
      ((asP (ixs 1 x10.a x10.n (wrapA .i64 ((wrapA .i64 (x12 * x9)) + x14)))).bind fun p16 =>
    (asI .i64 (ldc h15 p16)).bind fun n17 =>
    (asP (ixs 1 x13.a x13.n x14)).bind fun p18 =>
    (stv 1 h15 p18 [(Value.int .u8 (wrapA .u8 n17))]).bind fun q19 =>
    (asP (ixs 1 x10.a x10.n (wrapA .i64 ((wrapA .i64 (x12 * x9)) + x14)))).bind fun p20 =>
    (asI .i64 (ldc q19.2 p20)).bind fun n21 =>
    (cond ((n21.tmod (5 : Int)) == (0 : Int))
      ((asP (ixs 1 x10.a x10.n (wrapA .i64 ((wrapA .i64 (x12 * x9)) + x14)))).bind fun p22 =>
    (asI .i64 (ldc q19.2 p22)).bind fun n23 =>
    (corbelhand_Pick.f k n23 (2 : Int) q19.2).bind fun q24 =>
    (asP (ixs 1 x13.a x13.n x14)).bind fun p25 =>
    (stv 1 q24.2 p25 [(Value.int .u8 (wrapA .u8 q24.1))]).bind fun q26 =>
    some ((), q26.2))
      (some ((), q19.2)) : Option ((Unit) × H)).bind fun j27 =>
    some ((), j27.2))
      (some ((), h15)) : Option ((Unit) × H)).bind fun j28 =>
    ih x8 x9 x10 x11 x12 x13 (wrapA .i64 (x14 + (1 : Int))) j28.2)
      (some ((), h15))) n
theorem corbellaw4_of.l1_zero (k : Nat) (x8 : Int) (x9 : Int) (x10 : Sl) (x11 : Sl) (x12 : Int) (x13 : Sl) (x14 : Int) (h15 : H) : corbellaw4_of.l1 k 0 x8 x9 x10 x11 x12 x13 x14 h15 = none := rfl
theorem corbellaw4_of.l1_succ (k n : Nat) (x8 : Int) (x9 : Int) (x10 : Sl) (x11 : Sl) (x12 : Int) (x13 : Sl) (x14 : Int) (h15 : H) : corbellaw4_of.l1 k (n + 1) x8 x9 x10 x11 x12 x13 x14 h15 = (cond (decide (x14 < x9))
      ((cond (decide ((wrapA .i64 ((wrapA .i64 (x12 * x9)) + x14)) < (Int.ofNat x10.n)))
      ((asP (ixs 1 x10.a x10.n (wrapA .i64 ((wrapA .i64 (x12 * x9)) + x14)))).bind fun p16 =>
    (asI .i64 (ldc h15 p16)).bind fun n17 =>
    (asP (ixs 1 x13.a x13.n x14)).bind fun p18 =>
    (stv 1 h15 p18 [(Value.int .u8 (wrapA .u8 n17))]).bind fun q19 =>
    (asP (ixs 1 x10.a x10.n (wrapA .i64 ((wrapA .i64 (x12 * x9)) + x14)))).bind fun p20 =>
    (asI .i64 (ldc q19.2 p20)).bind fun n21 =>
    (cond ((n21.tmod (5 : Int)) == (0 : Int))
      ((asP (ixs 1 x10.a x10.n (wrapA .i64 ((wrapA .i64 (x12 * x9)) + x14)))).bind fun p22 =>
    (asI .i64 (ldc q19.2 p22)).bind fun n23 =>
    (corbelhand_Pick.f k n23 (2 : Int) q19.2).bind fun q24 =>
    (asP (ixs 1 x13.a x13.n x14)).bind fun p25 =>
    (stv 1 q24.2 p25 [(Value.int .u8 (wrapA .u8 q24.1))]).bind fun q26 =>
    some ((), q26.2))
      (some ((), q19.2)) : Option ((Unit) × H)).bind fun j27 =>
    some ((), j27.2))
      (some ((), h15)) : Option ((Unit) × H)).bind fun j28 =>
    corbellaw4_of.l1 k n x8 x9 x10 x11 x12 x13 (wrapA .i64 (x14 + (1 : Int))) j28.2)
      (some ((), h15))) := rfl
noncomputable def corbellaw4_of.l0 (k : Nat) (n : Nat) : Int → Int → Sl → Sl → Int → H → Option ((Sl) × H) :=
  Nat.rec (motive := fun _ => Int → Int → Sl → Sl → Int → H → Option ((Sl) × H)) (fun _ _ _ _ _ _ => none) (fun _ ih x1 x2 x3 x4 x5 h6 => cond (decide (x5 < x1))
      ((asS2 (mkz 5 1 1 [(Value.int .u8 (0 : Int))] x2 x2 h6)).bind fun q7 =>
    (corbellaw4_of.l1 k k x1 x2 x3 x4 x5 q7.1 (0 : Int) q7.2).bind fun w29 =>
    (asS2 (apv 40 1 24 (Value.slice x4.a x4.n x4.c) (Value.slice (some ⟨w29.2.next, 0, none⟩) 1 1) (newR w29.2 40 1 [(Value.slice q7.1.a q7.1.n q7.1.c)]))).bind fun q30 =>
    ih x1 x2 x3 q30.1 (wrapA .i64 (x5 + (1 : Int))) q30.2)
      (some (x4, h6))) n
theorem corbellaw4_of.l0_zero (k : Nat) (x1 : Int) (x2 : Int) (x3 : Sl) (x4 : Sl) (x5 : Int) (h6 : H) : corbellaw4_of.l0 k 0 x1 x2 x3 x4 x5 h6 = none := rfl
theorem corbellaw4_of.l0_succ (k n : Nat) (x1 : Int) (x2 : Int) (x3 : Sl) (x4 : Sl) (x5 : Int) (h6 : H) : corbellaw4_of.l0 k (n + 1) x1 x2 x3 x4 x5 h6 = (cond (decide (x5 < x1))
      ((asS2 (mkz 5 1 1 [(Value.int .u8 (0 : Int))] x2 x2 h6)).bind fun q7 =>
    (corbellaw4_of.l1 k k x1 x2 x3 x4 x5 q7.1 (0 : Int) q7.2).bind fun w29 =>
    (asS2 (apv 40 1 24 (Value.slice x4.a x4.n x4.c) (Value.slice (some ⟨w29.2.next, 0, none⟩) 1 1) (newR w29.2 40 1 [(Value.slice q7.1.a q7.1.n q7.1.c)]))).bind fun q30 =>
    corbellaw4_of.l0 k n x1 x2 x3 q30.1 (wrapA .i64 (x5 + (1 : Int))) q30.2)
      (some (x4, h6))) := rfl
noncomputable def corbellaw4_of.f (k : Nat) (a0 : Int) (a1 : Int) (a2 : Sl) (h : H) : Option ((Sl) × H) :=
  (corbellaw4_of.l0 k k a0 a1 a2 (⟨none, 0, 0⟩ : Sl) (0 : Int) h).bind fun w31 =>
    some (w31.1, w31.2)
noncomputable def corbellaw4_of.T (k : Nat) : Tbl := tblOf [⟨36, anyArgs, wr [(.int .i64), (.int .i64)] [(.int .i64)] (fun a h => corbelhand_Pick.f k (a.1) (a.2) h)⟩]
noncomputable def corbellaw4_of.an (k : Nat) (p : Nat) : Option Ann := cond (Nat.beq p 58) (some (.pass [] (lrun [(0, (.int .i64)), (1, (.int .i64)), (2, .sl), (7, .sl), (8, (.int .i64))] none [(7, .sl)] 0 (fun a h => corbellaw4_of.l0 k k (a.1) (a.2.1) (a.2.2.1) (a.2.2.2.1) (a.2.2.2.2) h))))
  (cond (Nat.beq p 14922) (some (.pass [0, 1, 2, 7, 8, 9] (lrun [(0, (.int .i64)), (1, (.int .i64)), (2, .sl), (7, .sl), (8, (.int .i64)), (9, .sl), (10, (.int .i64))] none [] 2 (fun a h => corbellaw4_of.l1 k k (a.1) (a.2.1) (a.2.2.1) (a.2.2.2.1) (a.2.2.2.2.1) (a.2.2.2.2.2.1) (a.2.2.2.2.2.2) h))))
  (cond (Nat.beq p 955027) (some (.join [0, 1, 2, 7, 8, 9, 10] none []))
  (cond (Nat.beq p 7640219) (some (.join [0, 1, 2, 7, 8, 9, 10] none []))
  (none))))
noncomputable def corbellaw4_of.body : Code := (Try.f37.body).getD .skip
noncomputable def corbellaw4_of.c58 : Code := cat corbellaw4_of.body [1, 1, 0, 1, 0, 0]
noncomputable def corbellaw4_of.c14922 : Code := cat corbellaw4_of.body [1, 1, 0, 1, 0, 0, 1, 0, 0, 1, 0, 1, 0, 0]
set_option maxRecDepth 100000 in
theorem corbellaw4_of.TS {C : FuncId → Bool} {X : CallF} (hX : XOk C X) (k : Nat) : TblS Try.prog C X (corbellaw4_of.T k) := by
  refine tblOf_sound ?_
  intro e he
  rcases List.mem_cons.1 he with rfl | he
  · exact wr_told (corbelhand_Pick.told hX k)
  exact absurd he List.not_mem_nil
set_option maxRecDepth 100000 in
theorem corbellaw4_of.l1_pass {C : FuncId → Bool} {X : CallF} (hX : XOk C X) (k n : Nat) : PassS Try.prog C X 61 (.loop corbellaw4_of.c14922) (lrun [(0, (.int .i64)), (1, (.int .i64)), (2, .sl), (7, .sl), (8, (.int .i64)), (9, .sl), (10, (.int .i64))] none [] 2 (fun a h => corbellaw4_of.l1 k n (a.1) (a.2.1) (a.2.2.1) (a.2.2.2.1) (a.2.2.2.2.1) (a.2.2.2.2.2.1) (a.2.2.2.2.2.2) h)) :=
  loop_pass (ins := [(0, (.int .i64)), (1, (.int .i64)), (2, .sl), (7, .sl), (8, (.int .i64)), (9, .sl), (10, (.int .i64))]) (rets := none) (outs := []) (id := 2) (tbl := corbellaw4_of.T k) (an := corbellaw4_of.an k) (pb := 29844) (corbellaw4_of.TS hX k) (fun n => (fun a h => corbellaw4_of.l1 k n (a.1) (a.2.1) (a.2.2.1) (a.2.2.2.1) (a.2.2.2.2.1) (a.2.2.2.2.2.1) (a.2.2.2.2.2.2) h)) (fun a h => rfl) (fun n a h => by kernel_rfl)
    (by
      have e : need (corbellaw4_of.an k) corbellaw4_of.c14922 29844 = [] := by kernel_rfl
      rw [e]; intro q hq; cases hq) n
set_option maxRecDepth 100000 in
theorem corbellaw4_of.l0_pass {C : FuncId → Bool} {X : CallF} (hX : XOk C X) (k n : Nat) : PassS Try.prog C X 61 (.loop corbellaw4_of.c58) (lrun [(0, (.int .i64)), (1, (.int .i64)), (2, .sl), (7, .sl), (8, (.int .i64))] none [(7, .sl)] 0 (fun a h => corbellaw4_of.l0 k n (a.1) (a.2.1) (a.2.2.1) (a.2.2.2.1) (a.2.2.2.2) h)) :=
  loop_pass (ins := [(0, (.int .i64)), (1, (.int .i64)), (2, .sl), (7, .sl), (8, (.int .i64))]) (rets := none) (outs := [(7, .sl)]) (id := 0) (tbl := corbellaw4_of.T k) (an := corbellaw4_of.an k) (pb := 116) (corbellaw4_of.TS hX k) (fun n => (fun a h => corbellaw4_of.l0 k n (a.1) (a.2.1) (a.2.2.1) (a.2.2.2.1) (a.2.2.2.2) h)) (fun a h => rfl) (fun n a h => by kernel_rfl)
    (by
      have e : need (corbellaw4_of.an k) corbellaw4_of.c58 116 = [(Code.loop corbellaw4_of.c14922, lrun [(0, (.int .i64)), (1, (.int .i64)), (2, .sl), (7, .sl), (8, (.int .i64)), (9, .sl), (10, (.int .i64))] none [] 2 (fun a h => corbellaw4_of.l1 k k (a.1) (a.2.1) (a.2.2.1) (a.2.2.2.1) (a.2.2.2.2.1) (a.2.2.2.2.2.1) (a.2.2.2.2.2.2) h))] := by kernel_rfl
      rw [e]; intro q hq
      rcases List.mem_cons.1 hq with rfl | hq
      · exact corbellaw4_of.l1_pass hX k k
      cases hq) n
set_option maxRecDepth 100000 in
theorem corbellaw4_of.eq (k : Nat) (a : RT [(.int .i64), (.int .i64), .sl]) (h : H) : (fun a h => corbellaw4_of.f k (a.1) (a.2.1) (a.2.2) h) a h = kfun Try.prog (corbellaw4_of.T k) (corbellaw4_of.an k) (RT [.sl] × H) Try.f37 (encL [(.int .i64), (.int .i64), .sl] a) h (fun vs h' => (decL [.sl] vs).bind fun x => some (x, h')) := by kernel_rfl
set_option maxRecDepth 100000 in
theorem corbellaw4_of.told {C : FuncId → Bool} {X : CallF} (hX : XOk C X) (k : Nat) : Den.Told Try.prog C X 37 [(.int .i64), (.int .i64), .sl] [.sl] (fun a h => corbellaw4_of.f k (a.1) (a.2.1) (a.2.2) h) :=
  told_of fun a h q e => fn_of (c := corbellaw4_of.body) (corbellaw4_of.TS hX k) Try.func37 (by kernel_rfl) (hX.no 37 _ h (by decide))
    (by
      have e : need (corbellaw4_of.an k) corbellaw4_of.body 1 = [(Code.loop corbellaw4_of.c58, lrun [(0, (.int .i64)), (1, (.int .i64)), (2, .sl), (7, .sl), (8, (.int .i64))] none [(7, .sl)] 0 (fun a h => corbellaw4_of.l0 k k (a.1) (a.2.1) (a.2.2.1) (a.2.2.2.1) (a.2.2.2.2) h))] := by kernel_rfl
      rw [e]; intro q hq
      rcases List.mem_cons.1 hq with rfl | hq
      · exact corbellaw4_of.l0_pass hX k k
      cases hq)
    ((corbellaw4_of.eq k a h).symm.trans e)
/-! ### corbel/corbellaw4.MatrixBack -/
/-! ### corbel/corbellaw4.MatrixRows -/
end Go.Proofs.Ytnjeafdbifcfhaa.Fwd
