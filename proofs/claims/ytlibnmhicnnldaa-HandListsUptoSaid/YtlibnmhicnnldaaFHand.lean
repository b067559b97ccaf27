/- Forward runs of functions of the program, printed by a program of this session: each function on plain values and memory, and that the code comes to it. No condition. -/
import Derived.Test.YtlibnmhicnnldaaDenZ
import Derived.KernelRfl
namespace Go.Proofs.Ytlibnmhicnnldaa.Fwd
open Go Den
set_option linter.unusedVariables false
/-! ### corbel/corbelhand.Pick -/
noncomputable def corbelhand_Pick.f (k : Nat) (a0 : Int) (a1 : Int) (h : H) : Option ((Int) × H) :=
  (asI .i64 (intA .rem .i64 a0 a1)).bind fun n1 =>
    (cond (decide (n1 < (0 : Int)))
      (some (wrapA .i64 (n1 + a1), h))
      (some (n1, h)) : Option ((Int) × H)).bind fun j2 =>
    some (j2.1, j2.2)
noncomputable def corbelhand_Pick.T (k : Nat) : Tbl := tblOf []
noncomputable def corbelhand_Pick.an (k : Nat) (p : Nat) : Option Ann := cond (Nat.beq p 29) (some (.join [] none [(0, (.int .i64))]))
  (none)
noncomputable def corbelhand_Pick.body : Code := (Try.f16.body).getD .skip
set_option maxRecDepth 100000 in
theorem corbelhand_Pick.TS {C : FuncId → Bool} {X : CallF} (hX : XOk C X) (k : Nat) : TblS Try.prog C X (corbelhand_Pick.T k) := by
  refine tblOf_sound ?_
  intro e he
  exact absurd he List.not_mem_nil
set_option maxRecDepth 100000 in
theorem corbelhand_Pick.eq (k : Nat) (a : RT [(.int .i64), (.int .i64)]) (h : H) : (fun a h => corbelhand_Pick.f k (a.1) (a.2) h) a h = kfun Try.prog (corbelhand_Pick.T k) (corbelhand_Pick.an k) (RT [(.int .i64)] × H) Try.f16 (encL [(.int .i64), (.int .i64)] a) h (fun vs h' => (decL [(.int .i64)] vs).bind fun x => some (x, h')) := by kernel_rfl
set_option maxRecDepth 100000 in
theorem corbelhand_Pick.told {C : FuncId → Bool} {X : CallF} (hX : XOk C X) (k : Nat) : Den.Told Try.prog C X 16 [(.int .i64), (.int .i64)] [(.int .i64)] (fun a h => corbelhand_Pick.f k (a.1) (a.2) h) :=
  told_of fun a h q e => fn_of (c := corbelhand_Pick.body) (corbelhand_Pick.TS hX k) Try.func16 (by kernel_rfl) (hX.no 16 _ h (by decide))
    (by
      have e : need (corbelhand_Pick.an k) corbelhand_Pick.body 1 = [] := by kernel_rfl
      rw [e]; intro q hq; cases hq)
    ((corbelhand_Pick.eq k a h).symm.trans e)
/-! ### corbel/corbelhand.Name -/
noncomputable def corbelhand_Name.f (k : Nat) (a0 : Int) (h : H) : Option ((ByteArray) × H) :=
  (corbelhand_Pick.f k a0 (7 : Int) h).bind fun q1 =>
    (asT (ixv 7 1 #[(Value.string (⟨#[97]⟩ : ByteArray)), (Value.string (⟨#[98]⟩ : ByteArray)), (Value.string (⟨#[99]⟩ : ByteArray)), (Value.string (⟨#[118, 111, 108, 49]⟩ : ByteArray)), (Value.string (⟨#[115, 110, 97, 112]⟩ : ByteArray)), (Value.string (⟨#[122, 122, 57]⟩ : ByteArray)), (Value.string (⟨#[120]⟩ : ByteArray))] q1.1)).bind fun s2 =>
    some (s2, q1.2)
noncomputable def corbelhand_Name.T (k : Nat) : Tbl := tblOf [⟨16, anyArgs, wr [(.int .i64), (.int .i64)] [(.int .i64)] (fun a h => corbelhand_Pick.f k (a.1) (a.2) h)⟩]
noncomputable def corbelhand_Name.an (k : Nat) (p : Nat) : Option Ann := none
noncomputable def corbelhand_Name.body : Code := (Try.f15.body).getD .skip
set_option maxRecDepth 100000 in
theorem corbelhand_Name.TS {C : FuncId → Bool} {X : CallF} (hX : XOk C X) (k : Nat) : TblS Try.prog C X (corbelhand_Name.T k) := by
  refine tblOf_sound ?_
  intro e he
  rcases List.mem_cons.1 he with rfl | he
  · exact wr_told (corbelhand_Pick.told hX k)
  exact absurd he List.not_mem_nil
set_option maxRecDepth 100000 in
theorem corbelhand_Name.eq (k : Nat) (a : RT [(.int .i64)]) (h : H) : (fun a h => corbelhand_Name.f k a h) a h = kfun Try.prog (corbelhand_Name.T k) (corbelhand_Name.an k) (RT [.str] × H) Try.f15 (encL [(.int .i64)] a) h (fun vs h' => (decL [.str] vs).bind fun x => some (x, h')) := by kernel_rfl
set_option maxRecDepth 100000 in
theorem corbelhand_Name.told {C : FuncId → Bool} {X : CallF} (hX : XOk C X) (k : Nat) : Den.Told Try.prog C X 15 [(.int .i64)] [.str] (fun a h => corbelhand_Name.f k a h) :=
  told_of fun a h q e => fn_of (c := corbelhand_Name.body) (corbelhand_Name.TS hX k) Try.func15 (by kernel_rfl) (hX.no 15 _ h (by decide))
    (by
      have e : need (corbelhand_Name.an k) corbelhand_Name.body 1 = [] := by kernel_rfl
      rw [e]; intro q hq; cases hq)
    ((corbelhand_Name.eq k a h).symm.trans e)
/-! ### corbel/hand.New -/
noncomputable def hand_New.f (k : Nat) (h : H) : Option ((Option Addr) × H) :=
  some ((some ⟨h.next, 0, none⟩), (newR h 47 6 [(Value.slice none 0 0), (Value.bool false), (Value.bool false), (Value.string (⟨#[]⟩ : ByteArray)), (Value.bool false), (Value.bool false)]))
noncomputable def hand_New.T (k : Nat) : Tbl := tblOf []
noncomputable def hand_New.an (k : Nat) (p : Nat) : Option Ann := none
noncomputable def hand_New.body : Code := (Try.f7.body).getD .skip
set_option maxRecDepth 100000 in
theorem hand_New.TS {C : FuncId → Bool} {X : CallF} (hX : XOk C X) (k : Nat) : TblS Try.prog C X (hand_New.T k) := by
  refine tblOf_sound ?_
  intro e he
  exact absurd he List.not_mem_nil
set_option maxRecDepth 100000 in
theorem hand_New.eq (k : Nat) (a : RT []) (h : H) : (fun a h => hand_New.f k h) a h = kfun Try.prog (hand_New.T k) (hand_New.an k) (RT [.ptr] × H) Try.f7 (encL [] a) h (fun vs h' => (decL [.ptr] vs).bind fun x => some (x, h')) := by kernel_rfl
set_option maxRecDepth 100000 in
theorem hand_New.told {C : FuncId → Bool} {X : CallF} (hX : XOk C X) (k : Nat) : Den.Told Try.prog C X 7 [] [.ptr] (fun a h => hand_New.f k h) :=
  told_of fun a h q e => fn_of (c := hand_New.body) (hand_New.TS hX k) Try.func7 (by kernel_rfl) (hX.no 7 _ h (by decide))
    (by
      have e : need (hand_New.an k) hand_New.body 1 = [] := by kernel_rfl
      rw [e]; intro q hq; cases hq)
    ((hand_New.eq k a h).symm.trans e)
/-! ### corbel/corbelref7.Big -/
noncomputable def corbelref7_Big.l0 (k : Nat) (n : Nat) : Int → Sl → Int → H → Option ((Sl) × H) :=
  Nat.rec (motive := fun _ => Int → Sl → Int → H → Option ((Sl) × H)) (fun _ _ _ _ => none) (fun _ ih x1 x2 x3 h4 => cond (decide (x3 ≥ (0 : Int)))
      ((asI .i64 (binA Try.prog .shr 3 (Value.int .i64 x1) (Value.int .u64 (wrapA .u64 (wrapA .i64 ((8 : Int) * x3)))))).bind fun n5 =>
    (asS2 (apv 5 1 1 (Value.slice x2.a x2.n x2.c) (Value.slice (some ⟨h4.next, 0, none⟩) 1 1) (newR h4 5 1 [(Value.int .u8 (wrapA .u8 n5))]))).bind fun q6 =>
    ih x1 q6.1 (wrapA .i64 (x3 - (1 : Int))) q6.2)
      (some (x2, h4))) n
theorem corbelref7_Big.l0_zero (k : Nat) (x1 : Int) (x2 : Sl) (x3 : Int) (h4 : H) : corbelref7_Big.l0 k 0 x1 x2 x3 h4 = none := rfl
theorem corbelref7_Big.l0_succ (k n : Nat) (x1 : Int) (x2 : Sl) (x3 : Int) (h4 : H) : corbelref7_Big.l0 k (n + 1) x1 x2 x3 h4 = (cond (decide (x3 ≥ (0 : Int)))
      ((asI .i64 (binA Try.prog .shr 3 (Value.int .i64 x1) (Value.int .u64 (wrapA .u64 (wrapA .i64 ((8 : Int) * x3)))))).bind fun n5 =>
    (asS2 (apv 5 1 1 (Value.slice x2.a x2.n x2.c) (Value.slice (some ⟨h4.next, 0, none⟩) 1 1) (newR h4 5 1 [(Value.int .u8 (wrapA .u8 n5))]))).bind fun q6 =>
    corbelref7_Big.l0 k n x1 q6.1 (wrapA .i64 (x3 - (1 : Int))) q6.2)
      (some (x2, h4))) := rfl
noncomputable def corbelref7_Big.f (k : Nat) (a0 : Int) (a1 : Int) (h : H) : Option ((Sl) × H) :=
  (corbelref7_Big.l0 k k a0 (⟨none, 0, 0⟩ : Sl) (wrapA .i64 (a1 - (1 : Int))) h).bind fun w7 =>
    some (w7.1, w7.2)
noncomputable def corbelref7_Big.T (k : Nat) : Tbl := tblOf []
noncomputable def corbelref7_Big.an (k : Nat) (p : Nat) : Option Ann := cond (Nat.beq p 58) (some (.pass [] (lrun [(0, (.int .i64)), (5, .sl), (6, (.int .i64))] none [(5, .sl)] 0 (fun a h => corbelref7_Big.l0 k k (a.1) (a.2.1) (a.2.2) h))))
  (none)
noncomputable def corbelref7_Big.body : Code := (Try.f17.body).getD .skip
noncomputable def corbelref7_Big.c58 : Code := cat corbelref7_Big.body [1, 1, 0, 1, 0, 0]
set_option maxRecDepth 100000 in
theorem corbelref7_Big.TS {C : FuncId → Bool} {X : CallF} (hX : XOk C X) (k : Nat) : TblS Try.prog C X (corbelref7_Big.T k) := by
  refine tblOf_sound ?_
  intro e he
  exact absurd he List.not_mem_nil
set_option maxRecDepth 100000 in
theorem corbelref7_Big.l0_pass {C : FuncId → Bool} {X : CallF} (hX : XOk C X) (k n : Nat) : PassS Try.prog C X 23 (.loop corbelref7_Big.c58) (lrun [(0, (.int .i64)), (5, .sl), (6, (.int .i64))] none [(5, .sl)] 0 (fun a h => corbelref7_Big.l0 k n (a.1) (a.2.1) (a.2.2) h)) :=
  loop_pass (ins := [(0, (.int .i64)), (5, .sl), (6, (.int .i64))]) (rets := none) (outs := [(5, .sl)]) (id := 0) (tbl := corbelref7_Big.T k) (an := corbelref7_Big.an k) (pb := 116) (corbelref7_Big.TS hX k) (fun n => (fun a h => corbelref7_Big.l0 k n (a.1) (a.2.1) (a.2.2) h)) (fun a h => rfl) (fun n a h => by kernel_rfl)
    (by
      have e : need (corbelref7_Big.an k) corbelref7_Big.c58 116 = [] := by kernel_rfl
      rw [e]; intro q hq; cases hq) n
set_option maxRecDepth 100000 in
theorem corbelref7_Big.eq (k : Nat) (a : RT [(.int .i64), (.int .i64)]) (h : H) : (fun a h => corbelref7_Big.f k (a.1) (a.2) h) a h = kfun Try.prog (corbelref7_Big.T k) (corbelref7_Big.an k) (RT [.sl] × H) Try.f17 (encL [(.int .i64), (.int .i64)] a) h (fun vs h' => (decL [.sl] vs).bind fun x => some (x, h')) := by kernel_rfl
set_option maxRecDepth 100000 in
theorem corbelref7_Big.told {C : FuncId → Bool} {X : CallF} (hX : XOk C X) (k : Nat) : Den.Told Try.prog C X 17 [(.int .i64), (.int .i64)] [.sl] (fun a h => corbelref7_Big.f k (a.1) (a.2) h) :=
  told_of fun a h q e => fn_of (c := corbelref7_Big.body) (corbelref7_Big.TS hX k) Try.func17 (by kernel_rfl) (hX.no 17 _ h (by decide))
    (by
      have e : need (corbelref7_Big.an k) corbelref7_Big.body 1 = [(Code.loop corbelref7_Big.c58, lrun [(0, (.int .i64)), (5, .sl), (6, (.int .i64))] none [(5, .sl)] 0 (fun a h => corbelref7_Big.l0 k k (a.1) (a.2.1) (a.2.2) h))] := by kernel_rfl
      rw [e]; intro q hq
      rcases List.mem_cons.1 hq with rfl | hq
      · exact corbelref7_Big.l0_pass hX k k
      cases hq)
    ((corbelref7_Big.eq k a h).symm.trans e)
/-! ### corbel/hand.Flags -/
noncomputable def hand_Flags.f (k : Nat) (a0 : (ByteArray × Int × Bool)) (h : H) : Option ((Int) × H) :=
  (asB (ldc (newR h 35 3 [(Value.string a0.1), (Value.int .i64 a0.2.1), (Value.bool a0.2.2)]) (some ⟨h.next, 2, none⟩))).bind fun b1 =>
    cond b1
      (some ((111 : Int), (newR h 35 3 [(Value.string a0.1), (Value.int .i64 a0.2.1), (Value.bool a0.2.2)])))
      (some ((109 : Int), (newR h 35 3 [(Value.string a0.1), (Value.int .i64 a0.2.1), (Value.bool a0.2.2)])))
noncomputable def hand_Flags.T (k : Nat) : Tbl := tblOf []
noncomputable def hand_Flags.an (k : Nat) (p : Nat) : Option Ann := none
noncomputable def hand_Flags.body : Code := (Try.f14.body).getD .skip
set_option maxRecDepth 100000 in
theorem hand_Flags.TS {C : FuncId → Bool} {X : CallF} (hX : XOk C X) (k : Nat) : TblS Try.prog C X (hand_Flags.T k) := by
  refine tblOf_sound ?_
  intro e he
  exact absurd he List.not_mem_nil
set_option maxRecDepth 100000 in
theorem hand_Flags.eq (k : Nat) (a : RT [(.st [.str, (.int .i64), .bool])]) (h : H) : (fun a h => hand_Flags.f k a h) a h = kfun Try.prog (hand_Flags.T k) (hand_Flags.an k) (RT [(.int .i64)] × H) Try.f14 (encL [(.st [.str, (.int .i64), .bool])] a) h (fun vs h' => (decL [(.int .i64)] vs).bind fun x => some (x, h')) := by kernel_rfl
set_option maxRecDepth 100000 in
theorem hand_Flags.told {C : FuncId → Bool} {X : CallF} (hX : XOk C X) (k : Nat) : Den.Told Try.prog C X 14 [(.st [.str, (.int .i64), .bool])] [(.int .i64)] (fun a h => hand_Flags.f k a h) :=
  told_of fun a h q e => fn_of (c := hand_Flags.body) (hand_Flags.TS hX k) Try.func14 (by kernel_rfl) (hX.no 14 _ h (by decide))
    (by
      have e : need (hand_Flags.an k) hand_Flags.body 1 = [] := by kernel_rfl
      rw [e]; intro q hq; cases hq)
    ((hand_Flags.eq k a h).symm.trans e)
/-! ### corbel/corbellaw23.option -/
noncomputable def corbellaw23_option.f (k : Nat) (a0 : Int) (a1 : Sl) (h : H) : Option ((Sl) × H) :=
  (asS2 (cvs (newR h 5 1 [(Value.int .u8 (73 : Int)), (Value.int .u8 (72 : Int)), (Value.int .u8 (65 : Int)), (Value.int .u8 (86 : Int)), (Value.int .u8 (69 : Int)), (Value.int .u8 (79 : Int)), (Value.int .u8 (80 : Int)), (Value.int .u8 (84 : Int))]) (Value.slice (some ⟨h.next, 0, none⟩) 8 8))).bind fun q1 =>
    (corbelref7_Big.f k a0 (4 : Int) q1.2).bind fun q2 =>
    (asS2 (apv 5 1 1 (Value.slice q1.1.a q1.1.n q1.1.c) (Value.slice q2.1.a q2.1.n q2.1.c) q2.2)).bind fun q3 =>
    (corbelref7_Big.f k (Int.ofNat a1.n) (4 : Int) q3.2).bind fun q4 =>
    (asS2 (apv 5 1 1 (Value.slice q3.1.a q3.1.n q3.1.c) (Value.slice q4.1.a q4.1.n q4.1.c) q4.2)).bind fun q5 =>
    (asS2 (apv 5 1 1 (Value.slice q5.1.a q5.1.n q5.1.c) (Value.slice a1.a a1.n a1.c) q5.2)).bind fun q6 =>
    some (q6.1, q6.2)
noncomputable def corbellaw23_option.T (k : Nat) : Tbl := tblOf [⟨17, anyArgs, wr [(.int .i64), (.int .i64)] [.sl] (fun a h => corbelref7_Big.f k (a.1) (a.2) h)⟩]
noncomputable def corbellaw23_option.an (k : Nat) (p : Nat) : Option Ann := none
noncomputable def corbellaw23_option.body : Code := (Try.f11.body).getD .skip
set_option maxRecDepth 100000 in
theorem corbellaw23_option.TS {C : FuncId → Bool} {X : CallF} (hX : XOk C X) (k : Nat) : TblS Try.prog C X (corbellaw23_option.T k) := by
  refine tblOf_sound ?_
  intro e he
  rcases List.mem_cons.1 he with rfl | he
  · exact wr_told (corbelref7_Big.told hX k)
  exact absurd he List.not_mem_nil
set_option maxRecDepth 100000 in
theorem corbellaw23_option.eq (k : Nat) (a : RT [(.int .i64), .sl]) (h : H) : (fun a h => corbellaw23_option.f k (a.1) (a.2) h) a h = kfun Try.prog (corbellaw23_option.T k) (corbellaw23_option.an k) (RT [.sl] × H) Try.f11 (encL [(.int .i64), .sl] a) h (fun vs h' => (decL [.sl] vs).bind fun x => some (x, h')) := by kernel_rfl
set_option maxRecDepth 100000 in
theorem corbellaw23_option.told {C : FuncId → Bool} {X : CallF} (hX : XOk C X) (k : Nat) : Den.Told Try.prog C X 11 [(.int .i64), .sl] [.sl] (fun a h => corbellaw23_option.f k (a.1) (a.2) h) :=
  told_of fun a h q e => fn_of (c := corbellaw23_option.body) (corbellaw23_option.TS hX k) Try.func11 (by kernel_rfl) (hX.no 11 _ h (by decide))
    (by
      have e : need (corbellaw23_option.an k) corbellaw23_option.body 1 = [] := by kernel_rfl
      rw [e]; intro q hq; cases hq)
    ((corbellaw23_option.eq k a h).symm.trans e)
/-! ### corbel/corbelplay.option -/
noncomputable def corbelplay_option.f (k : Nat) (a0 : Int) (a1 : Sl) (h : H) : Option ((Sl) × H) :=
  (asS2 (cvs (newR h 5 1 [(Value.int .u8 (73 : Int)), (Value.int .u8 (72 : Int)), (Value.int .u8 (65 : Int)), (Value.int .u8 (86 : Int)), (Value.int .u8 (69 : Int)), (Value.int .u8 (79 : Int)), (Value.int .u8 (80 : Int)), (Value.int .u8 (84 : Int))]) (Value.slice (some ⟨h.next, 0, none⟩) 8 8))).bind fun q1 =>
    (corbelref7_Big.f k a0 (4 : Int) q1.2).bind fun q2 =>
    (asS2 (apv 5 1 1 (Value.slice q1.1.a q1.1.n q1.1.c) (Value.slice q2.1.a q2.1.n q2.1.c) q2.2)).bind fun q3 =>
    (corbelref7_Big.f k (Int.ofNat a1.n) (4 : Int) q3.2).bind fun q4 =>
    (asS2 (apv 5 1 1 (Value.slice q3.1.a q3.1.n q3.1.c) (Value.slice q4.1.a q4.1.n q4.1.c) q4.2)).bind fun q5 =>
    (asS2 (apv 5 1 1 (Value.slice q5.1.a q5.1.n q5.1.c) (Value.slice a1.a a1.n a1.c) q5.2)).bind fun q6 =>
    some (q6.1, q6.2)
noncomputable def corbelplay_option.T (k : Nat) : Tbl := tblOf [⟨17, anyArgs, wr [(.int .i64), (.int .i64)] [.sl] (fun a h => corbelref7_Big.f k (a.1) (a.2) h)⟩]
noncomputable def corbelplay_option.an (k : Nat) (p : Nat) : Option Ann := none
noncomputable def corbelplay_option.body : Code := (Try.f25.body).getD .skip
set_option maxRecDepth 100000 in
theorem corbelplay_option.TS {C : FuncId → Bool} {X : CallF} (hX : XOk C X) (k : Nat) : TblS Try.prog C X (corbelplay_option.T k) := by
  refine tblOf_sound ?_
  intro e he
  rcases List.mem_cons.1 he with rfl | he
  · exact wr_told (corbelref7_Big.told hX k)
  exact absurd he List.not_mem_nil
set_option maxRecDepth 100000 in
theorem corbelplay_option.eq (k : Nat) (a : RT [(.int .i64), .sl]) (h : H) : (fun a h => corbelplay_option.f k (a.1) (a.2) h) a h = kfun Try.prog (corbelplay_option.T k) (corbelplay_option.an k) (RT [.sl] × H) Try.f25 (encL [(.int .i64), .sl] a) h (fun vs h' => (decL [.sl] vs).bind fun x => some (x, h')) := by kernel_rfl
set_option maxRecDepth 100000 in
theorem corbelplay_option.told {C : FuncId → Bool} {X : CallF} (hX : XOk C X) (k : Nat) : Den.Told Try.prog C X 25 [(.int .i64), .sl] [.sl] (fun a h => corbelplay_option.f k (a.1) (a.2) h) :=
  told_of fun a h q e => fn_of (c := corbelplay_option.body) (corbelplay_option.TS hX k) Try.func25 (by kernel_rfl) (hX.no 25 _ h (by decide))
    (by
      have e : need (corbelplay_option.an k) corbelplay_option.body 1 = [] := by kernel_rfl
      rw [e]; intro q hq; cases hq)
    ((corbelplay_option.eq k a h).symm.trans e)
/-! ### corbel/corbelplay.Go -/
noncomputable def corbelplay_Go.f (k : Nat) (a0 : ByteArray) (h : H) : Option ((Sl) × H) :=
  (corbelref7_Big.f k (Int.ofNat a0.data.toList.length) (4 : Int) h).bind fun q1 =>
    (asS2 (apv 5 1 1 (Value.slice q1.1.a q1.1.n q1.1.c) (Value.string a0) q1.2)).bind fun q2 =>
    (asS2 (apv 5 1 1 (Value.slice q2.1.a q2.1.n q2.1.c) (Value.slice (some ⟨q2.2.next, 0, none⟩) 2 2) (newR q2.2 5 1 [(Value.int .u8 (0 : Int)), (Value.int .u8 (0 : Int))]))).bind fun q3 =>
    (corbelplay_option.f k (7 : Int) q3.1 (newR q3.2 5 1 [(Value.int .u8 (0 : Int)), (Value.int .u8 (0 : Int)), (Value.int .u8 (0 : Int)), (Value.int .u8 (1 : Int))])).bind fun q4 =>
    (asS2 (apv 5 1 1 (Value.slice (some ⟨q3.2.next, 0, none⟩) 4 4) (Value.slice q4.1.a q4.1.n q4.1.c) q4.2)).bind fun q5 =>
    some (q5.1, q5.2)
noncomputable def corbelplay_Go.T (k : Nat) : Tbl := tblOf [⟨17, anyArgs, wr [(.int .i64), (.int .i64)] [.sl] (fun a h => corbelref7_Big.f k (a.1) (a.2) h)⟩,
  ⟨25, anyArgs, wr [(.int .i64), .sl] [.sl] (fun a h => corbelplay_option.f k (a.1) (a.2) h)⟩]
noncomputable def corbelplay_Go.an (k : Nat) (p : Nat) : Option Ann := none
noncomputable def corbelplay_Go.body : Code := (Try.f18.body).getD .skip
set_option maxRecDepth 100000 in
theorem corbelplay_Go.TS {C : FuncId → Bool} {X : CallF} (hX : XOk C X) (k : Nat) : TblS Try.prog C X (corbelplay_Go.T k) := by
  refine tblOf_sound ?_
  intro e he
  rcases List.mem_cons.1 he with rfl | he
  · exact wr_told (corbelref7_Big.told hX k)
  rcases List.mem_cons.1 he with rfl | he
  · exact wr_told (corbelplay_option.told hX k)
  exact absurd he List.not_mem_nil
set_option maxRecDepth 100000 in
theorem corbelplay_Go.eq (k : Nat) (a : RT [.str]) (h : H) : (fun a h => corbelplay_Go.f k a h) a h = kfun Try.prog (corbelplay_Go.T k) (corbelplay_Go.an k) (RT [.sl] × H) Try.f18 (encL [.str] a) h (fun vs h' => (decL [.sl] vs).bind fun x => some (x, h')) := by kernel_rfl
set_option maxRecDepth 100000 in
theorem corbelplay_Go.told {C : FuncId → Bool} {X : CallF} (hX : XOk C X) (k : Nat) : Den.Told Try.prog C X 18 [.str] [.sl] (fun a h => corbelplay_Go.f k a h) :=
  told_of fun a h q e => fn_of (c := corbelplay_Go.body) (corbelplay_Go.TS hX k) Try.func18 (by kernel_rfl) (hX.no 18 _ h (by decide))
    (by
      have e : need (corbelplay_Go.an k) corbelplay_Go.body 1 = [] := by kernel_rfl
      rw [e]; intro q hq; cases hq)
    ((corbelplay_Go.eq k a h).symm.trans e)
/-! ### slices.Clone[[]byte,byte] -/
noncomputable def slices_Clone_byte_byte.f (k : Nat) (a0 : Sl) (h : H) : Option ((Sl) × H) :=
  (asB (binO1 Try.prog .eql 25 (Value.slice a0.a a0.n a0.c) (Value.slice none 0 0))).bind fun b1 =>
    cond b1
      (some ((⟨none, 0, 0⟩ : Sl), h))
      ((asS2 (apv 5 1 1 (Value.slice (some ⟨h.next, 0, none⟩) 0 0) (Value.slice a0.a a0.n a0.c) (newR h 5 1 []))).bind fun q2 =>
    some (q2.1, q2.2))
noncomputable def slices_Clone_byte_byte.T (k : Nat) : Tbl := tblOf []
noncomputable def slices_Clone_byte_byte.an (k : Nat) (p : Nat) : Option Ann := none
noncomputable def slices_Clone_byte_byte.body : Code := (Try.f22.body).getD .skip
set_option maxRecDepth 100000 in
theorem slices_Clone_byte_byte.TS {C : FuncId → Bool} {X : CallF} (hX : XOk C X) (k : Nat) : TblS Try.prog C X (slices_Clone_byte_byte.T k) := by
  refine tblOf_sound ?_
  intro e he
  exact absurd he List.not_mem_nil
set_option maxRecDepth 100000 in
theorem slices_Clone_byte_byte.eq (k : Nat) (a : RT [.sl]) (h : H) : (fun a h => slices_Clone_byte_byte.f k a h) a h = kfun Try.prog (slices_Clone_byte_byte.T k) (slices_Clone_byte_byte.an k) (RT [.sl] × H) Try.f22 (encL [.sl] a) h (fun vs h' => (decL [.sl] vs).bind fun x => some (x, h')) := by kernel_rfl
set_option maxRecDepth 100000 in
theorem slices_Clone_byte_byte.told {C : FuncId → Bool} {X : CallF} (hX : XOk C X) (k : Nat) : Den.Told Try.prog C X 22 [.sl] [.sl] (fun a h => slices_Clone_byte_byte.f k a h) :=
  told_of fun a h q e => fn_of (c := slices_Clone_byte_byte.body) (slices_Clone_byte_byte.TS hX k) Try.func22 (by kernel_rfl) (hX.no 22 _ h (by decide))
    (by
      have e : need (slices_Clone_byte_byte.an k) slices_Clone_byte_byte.body 1 = [] := by kernel_rfl
      rw [e]; intro q hq; cases hq)
    ((slices_Clone_byte_byte.eq k a h).symm.trans e)
/-! ### slices.Grow[[]byte,byte] -/
noncomputable def slices_Grow_byte_byte.f (k : Nat) (a0 : Sl) (a1 : Int) (h : H) : Option ((Sl) × H) :=
  (cond (decide (a1 < (0 : Int)))
      (none)
      (some ((), h)) : Option ((Unit) × H)).bind fun j1 =>
    (asI2 .i64 (pv j1.2 (capV a0.a a0.c))).bind fun q2 =>
    (cond (decide ((wrapA .i64 (a1 - (wrapA .i64 (q2.1 - (Int.ofNat a0.n))))) > (0 : Int)))
      ((asI2 .i64 (pv q2.2 (capV a0.a a0.c))).bind fun q3 =>
    (asS (subs 1 (Value.slice a0.a a0.n a0.c) none (some q3.1))).bind fun s4 =>
    (asS2 (apz 5 1 1 [(Value.int .u8 (0 : Int))] (Value.slice s4.a s4.n s4.c) (wrapA .i64 (a1 - (wrapA .i64 (q2.1 - (Int.ofNat a0.n))))) q3.2)).bind fun q5 =>
    (asS (subs 1 (Value.slice q5.1.a q5.1.n q5.1.c) none (some (Int.ofNat a0.n)))).bind fun s6 =>
    some (s6, q5.2))
      (some (a0, q2.2)) : Option ((Sl) × H)).bind fun j7 =>
    some (j7.1, j7.2)
noncomputable def slices_Grow_byte_byte.T (k : Nat) : Tbl := tblOf []
noncomputable def slices_Grow_byte_byte.an (k : Nat) (p : Nat) : Option Ann := cond (Nat.beq p 59) (some (.join [] none [(0, .sl)]))
  (cond (Nat.beq p 13) (some (.join [0, 1] none []))
  (none))
noncomputable def slices_Grow_byte_byte.body : Code := (Try.f27.body).getD .skip
set_option maxRecDepth 100000 in
theorem slices_Grow_byte_byte.TS {C : FuncId → Bool} {X : CallF} (hX : XOk C X) (k : Nat) : TblS Try.prog C X (slices_Grow_byte_byte.T k) := by
  refine tblOf_sound ?_
  intro e he
  exact absurd he List.not_mem_nil
set_option maxRecDepth 100000 in
theorem slices_Grow_byte_byte.eq (k : Nat) (a : RT [.sl, (.int .i64)]) (h : H) : (fun a h => slices_Grow_byte_byte.f k (a.1) (a.2) h) a h = kfun Try.prog (slices_Grow_byte_byte.T k) (slices_Grow_byte_byte.an k) (RT [.sl] × H) Try.f27 (encL [.sl, (.int .i64)] a) h (fun vs h' => (decL [.sl] vs).bind fun x => some (x, h')) := by kernel_rfl
set_option maxRecDepth 100000 in
theorem slices_Grow_byte_byte.told {C : FuncId → Bool} {X : CallF} (hX : XOk C X) (k : Nat) : Den.Told Try.prog C X 27 [.sl, (.int .i64)] [.sl] (fun a h => slices_Grow_byte_byte.f k (a.1) (a.2) h) :=
  told_of fun a h q e => fn_of (c := slices_Grow_byte_byte.body) (slices_Grow_byte_byte.TS hX k) Try.func27 (by kernel_rfl) (hX.no 27 _ h (by decide))
    (by
      have e : need (slices_Grow_byte_byte.an k) slices_Grow_byte_byte.body 1 = [] := by kernel_rfl
      rw [e]; intro q hq; cases hq)
    ((slices_Grow_byte_byte.eq k a h).symm.trans e)
/-! ### slices.Concat[[]byte,byte] -/
noncomputable def slices_Concat_byte_byte.l1 (k : Nat) (n : Nat) : Sl → Int → Sl → Int → H → Option ((Sl) × H) :=
  Nat.rec (motive := fun _ => Sl → Int → Sl → Int → H → Option ((Sl) × H)) (fun _ _ _ _ _ => none) (fun _ ih x12 x13 x14 x15 h16 => cond (decide (x15 < x13))
      ((asP (ixs 1 x12.a x12.n x15)).bind fun p17 =>
    (asS (ldc h16 p17)).bind fun s18 =>
    (asS2 (apv 5 1 1 (Value.slice x14.a x14.n x14.c) (Value.slice s18.a s18.n s18.c) h16)).bind fun q19 =>
    ih x12 x13 q19.1 (wrapA .i64 (x15 + (1 : Int))) q19.2)
      (some (x14, h16))) n
theorem slices_Concat_byte_byte.l1_zero (k : Nat) (x12 : Sl) (x13 : Int) (x14 : Sl) (x15 : Int) (h16 : H) : slices_Concat_byte_byte.l1 k 0 x12 x13 x14 x15 h16 = none := rfl
theorem slices_Concat_byte_byte.l1_succ (k n : Nat) (x12 : Sl) (x13 : Int) (x14 : Sl) (x15 : Int) (h16 : H) : slices_Concat_byte_byte.l1 k (n + 1) x12 x13 x14 x15 h16 = (cond (decide (x15 < x13))
      ((asP (ixs 1 x12.a x12.n x15)).bind fun p17 =>
    (asS (ldc h16 p17)).bind fun s18 =>
    (asS2 (apv 5 1 1 (Value.slice x14.a x14.n x14.c) (Value.slice s18.a s18.n s18.c) h16)).bind fun q19 =>
    slices_Concat_byte_byte.l1 k n x12 x13 q19.1 (wrapA .i64 (x15 + (1 : Int))) q19.2)
      (some (x14, h16))) := rfl
noncomputable def slices_Concat_byte_byte.l0 (k : Nat) (n : Nat) : Sl → Sl → Int → Int → Int → H → Option ((Int) × H) :=
  Nat.rec (motive := fun _ => Sl → Sl → Int → Int → Int → H → Option ((Int) × H)) (fun _ _ _ _ _ _ => none) (fun _ ih x1 x2 x3 x4 x5 h6 => cond (decide (x5 < x3))
      ((asP (ixs 1 x2.a x2.n x5)).bind fun p7 =>
    (asS (ldc h6 p7)).bind fun s8 =>
    (cond (decide ((wrapA .i64 (x4 + (Int.ofNat s8.n))) < (0 : Int)))
      (none)
      (some ((), h6)) : Option ((Unit) × H)).bind fun j9 =>
    ih x1 x2 x3 (wrapA .i64 (x4 + (Int.ofNat s8.n))) (wrapA .i64 (x5 + (1 : Int))) j9.2)
      (some (x4, h6))) n
theorem slices_Concat_byte_byte.l0_zero (k : Nat) (x1 : Sl) (x2 : Sl) (x3 : Int) (x4 : Int) (x5 : Int) (h6 : H) : slices_Concat_byte_byte.l0 k 0 x1 x2 x3 x4 x5 h6 = none := rfl
theorem slices_Concat_byte_byte.l0_succ (k n : Nat) (x1 : Sl) (x2 : Sl) (x3 : Int) (x4 : Int) (x5 : Int) (h6 : H) : slices_Concat_byte_byte.l0 k (n + 1) x1 x2 x3 x4 x5 h6 = (cond (decide (x5 < x3))
      ((asP (ixs 1 x2.a x2.n x5)).bind fun p7 =>
    (asS (ldc h6 p7)).bind fun s8 =>
    (cond (decide ((wrapA .i64 (x4 + (Int.ofNat s8.n))) < (0 : Int)))
      (none)
      (some ((), h6)) : Option ((Unit) × H)).bind fun j9 =>
    slices_Concat_byte_byte.l0 k n x1 x2 x3 (wrapA .i64 (x4 + (Int.ofNat s8.n))) (wrapA .i64 (x5 + (1 : Int))) j9.2)
      (some (x4, h6))) := rfl
noncomputable def slices_Concat_byte_byte.f (k : Nat) (a0 : Sl) (h : H) : Option ((Sl) × H) :=
  (slices_Concat_byte_byte.l0 k k a0 a0 (Int.ofNat a0.n) (0 : Int) (0 : Int) h).bind fun w10 =>
    (slices_Grow_byte_byte.f k (⟨none, 0, 0⟩ : Sl) w10.1 w10.2).bind fun q11 =>
    (slices_Concat_byte_byte.l1 k k a0 (Int.ofNat a0.n) q11.1 (0 : Int) q11.2).bind fun w20 =>
    some (w20.1, w20.2)
noncomputable def slices_Concat_byte_byte.T (k : Nat) : Tbl := tblOf [⟨27, anyArgs, wr [.sl, (.int .i64)] [.sl] (fun a h => slices_Grow_byte_byte.f k (a.1) (a.2) h)⟩]
noncomputable def slices_Concat_byte_byte.an (k : Nat) (p : Nat) : Option Ann := cond (Nat.beq p 250) (some (.pass [] (lrun [(25, .sl), (26, (.int .i64)), (6, .sl), (27, (.int .i64))] none [(6, .sl)] 2 (fun a h => slices_Concat_byte_byte.l1 k k (a.1) (a.2.1) (a.2.2.1) (a.2.2.2) h))))
  (cond (Nat.beq p 58) (some (.pass [0] (lrun [(0, .sl), (9, .sl), (10, (.int .i64)), (3, (.int .i64)), (11, (.int .i64))] none [(3, (.int .i64))] 0 (fun a h => slices_Concat_byte_byte.l0 k k (a.1) (a.2.1) (a.2.2.1) (a.2.2.2.1) (a.2.2.2.2) h))))
  (cond (Nat.beq p 14951) (some (.join [0, 3, 9, 10, 11] none []))
  (none)))
noncomputable def slices_Concat_byte_byte.body : Code := (Try.f23.body).getD .skip
noncomputable def slices_Concat_byte_byte.c58 : Code := cat slices_Concat_byte_byte.body [1, 1, 0, 1, 0, 0]
noncomputable def slices_Concat_byte_byte.c250 : Code := cat slices_Concat_byte_byte.body [1, 1, 1, 1, 0, 1, 0, 0]
set_option maxRecDepth 100000 in
theorem slices_Concat_byte_byte.TS {C : FuncId → Bool} {X : CallF} (hX : XOk C X) (k : Nat) : TblS Try.prog C X (slices_Concat_byte_byte.T k) := by
  refine tblOf_sound ?_
  intro e he
  rcases List.mem_cons.1 he with rfl | he
  · exact wr_told (slices_Grow_byte_byte.told hX k)
  exact absurd he List.not_mem_nil
set_option maxRecDepth 100000 in
theorem slices_Concat_byte_byte.l1_pass {C : FuncId → Bool} {X : CallF} (hX : XOk C X) (k n : Nat) : PassS Try.prog C X 36 (.loop slices_Concat_byte_byte.c250) (lrun [(25, .sl), (26, (.int .i64)), (6, .sl), (27, (.int .i64))] none [(6, .sl)] 2 (fun a h => slices_Concat_byte_byte.l1 k n (a.1) (a.2.1) (a.2.2.1) (a.2.2.2) h)) :=
  loop_pass (ins := [(25, .sl), (26, (.int .i64)), (6, .sl), (27, (.int .i64))]) (rets := none) (outs := [(6, .sl)]) (id := 2) (tbl := slices_Concat_byte_byte.T k) (an := slices_Concat_byte_byte.an k) (pb := 500) (slices_Concat_byte_byte.TS hX k) (fun n => (fun a h => slices_Concat_byte_byte.l1 k n (a.1) (a.2.1) (a.2.2.1) (a.2.2.2) h)) (fun a h => rfl) (fun n a h => by kernel_rfl)
    (by
      have e : need (slices_Concat_byte_byte.an k) slices_Concat_byte_byte.c250 500 = [] := by kernel_rfl
      rw [e]; intro q hq; cases hq) n
set_option maxRecDepth 100000 in
theorem slices_Concat_byte_byte.l0_pass {C : FuncId → Bool} {X : CallF} (hX : XOk C X) (k n : Nat) : PassS Try.prog C X 36 (.loop slices_Concat_byte_byte.c58) (lrun [(0, .sl), (9, .sl), (10, (.int .i64)), (3, (.int .i64)), (11, (.int .i64))] none [(3, (.int .i64))] 0 (fun a h => slices_Concat_byte_byte.l0 k n (a.1) (a.2.1) (a.2.2.1) (a.2.2.2.1) (a.2.2.2.2) h)) :=
  loop_pass (ins := [(0, .sl), (9, .sl), (10, (.int .i64)), (3, (.int .i64)), (11, (.int .i64))]) (rets := none) (outs := [(3, (.int .i64))]) (id := 0) (tbl := slices_Concat_byte_byte.T k) (an := slices_Concat_byte_byte.an k) (pb := 116) (slices_Concat_byte_byte.TS hX k) (fun n => (fun a h => slices_Concat_byte_byte.l0 k n (a.1) (a.2.1) (a.2.2.1) (a.2.2.2.1) (a.2.2.2.2) h)) (fun a h => rfl) (fun n a h => by kernel_rfl)
    (by
      have e : need (slices_Concat_byte_byte.an k) slices_Concat_byte_byte.c58 116 = [] := by kernel_rfl
      rw [e]; intro q hq; cases hq) n
set_option maxRecDepth 100000 in
theorem slices_Concat_byte_byte.eq (k : Nat) (a : RT [.sl]) (h : H) : (fun a h => slices_Concat_byte_byte.f k a h) a h = kfun Try.prog (slices_Concat_byte_byte.T k) (slices_Concat_byte_byte.an k) (RT [.sl] × H) Try.f23 (encL [.sl] a) h (fun vs h' => (decL [.sl] vs).bind fun x => some (x, h')) := by kernel_rfl
set_option maxRecDepth 100000 in
theorem slices_Concat_byte_byte.told {C : FuncId → Bool} {X : CallF} (hX : XOk C X) (k : Nat) : Den.Told Try.prog C X 23 [.sl] [.sl] (fun a h => slices_Concat_byte_byte.f k a h) :=
  told_of fun a h q e => fn_of (c := slices_Concat_byte_byte.body) (slices_Concat_byte_byte.TS hX k) Try.func23 (by kernel_rfl) (hX.no 23 _ h (by decide))
    (by
      have e : need (slices_Concat_byte_byte.an k) slices_Concat_byte_byte.body 1 = [(Code.loop slices_Concat_byte_byte.c58, lrun [(0, .sl), (9, .sl), (10, (.int .i64)), (3, (.int .i64)), (11, (.int .i64))] none [(3, (.int .i64))] 0 (fun a h => slices_Concat_byte_byte.l0 k k (a.1) (a.2.1) (a.2.2.1) (a.2.2.2.1) (a.2.2.2.2) h)), (Code.loop slices_Concat_byte_byte.c250, lrun [(25, .sl), (26, (.int .i64)), (6, .sl), (27, (.int .i64))] none [(6, .sl)] 2 (fun a h => slices_Concat_byte_byte.l1 k k (a.1) (a.2.1) (a.2.2.1) (a.2.2.2) h))] := by kernel_rfl
      rw [e]; intro q hq
      rcases List.mem_cons.1 hq with rfl | hq
      · exact slices_Concat_byte_byte.l0_pass hX k k
      rcases List.mem_cons.1 hq with rfl | hq
      · exact slices_Concat_byte_byte.l1_pass hX k k
      cases hq)
    ((slices_Concat_byte_byte.eq k a h).symm.trans e)
/-! ### corbel/hand.number -/
noncomputable def hand_number.l0 (k : Nat) (n : Nat) : Sl → Int → Int → Int → H → Option ((Int) × H) :=
  Nat.rec (motive := fun _ => Sl → Int → Int → Int → H → Option ((Int) × H)) (fun _ _ _ _ _ => none) (fun _ ih x1 x2 x3 x4 h5 => cond (decide (x4 < x2))
      ((asP (ixs 1 x1.a x1.n x4)).bind fun p6 =>
    (asI .u8 (ldc h5 p6)).bind fun n7 =>
    (asI .i64 (intA .or .i64 (wrapA .i64 (x3 * 2 ^ 8)) (wrapA .i64 n7))).bind fun n8 =>
    ih x1 x2 n8 (wrapA .i64 (x4 + (1 : Int))) h5)
      (some (x3, h5))) n
theorem hand_number.l0_zero (k : Nat) (x1 : Sl) (x2 : Int) (x3 : Int) (x4 : Int) (h5 : H) : hand_number.l0 k 0 x1 x2 x3 x4 h5 = none := rfl
theorem hand_number.l0_succ (k n : Nat) (x1 : Sl) (x2 : Int) (x3 : Int) (x4 : Int) (h5 : H) : hand_number.l0 k (n + 1) x1 x2 x3 x4 h5 = (cond (decide (x4 < x2))
      ((asP (ixs 1 x1.a x1.n x4)).bind fun p6 =>
    (asI .u8 (ldc h5 p6)).bind fun n7 =>
    (asI .i64 (intA .or .i64 (wrapA .i64 (x3 * 2 ^ 8)) (wrapA .i64 n7))).bind fun n8 =>
    hand_number.l0 k n x1 x2 n8 (wrapA .i64 (x4 + (1 : Int))) h5)
      (some (x3, h5))) := rfl
noncomputable def hand_number.f (k : Nat) (a0 : Sl) (h : H) : Option ((Int) × H) :=
  (hand_number.l0 k k a0 (Int.ofNat a0.n) (0 : Int) (0 : Int) h).bind fun w9 =>
    some (w9.1, w9.2)
noncomputable def hand_number.T (k : Nat) : Tbl := tblOf []
noncomputable def hand_number.an (k : Nat) (p : Nat) : Option Ann := cond (Nat.beq p 58) (some (.pass [] (lrun [(6, .sl), (7, (.int .i64)), (3, (.int .i64)), (8, (.int .i64))] none [(3, (.int .i64))] 0 (fun a h => hand_number.l0 k k (a.1) (a.2.1) (a.2.2.1) (a.2.2.2) h))))
  (none)
noncomputable def hand_number.body : Code := (Try.f29.body).getD .skip
noncomputable def hand_number.c58 : Code := cat hand_number.body [1, 1, 0, 1, 0, 0]
set_option maxRecDepth 100000 in
theorem hand_number.TS {C : FuncId → Bool} {X : CallF} (hX : XOk C X) (k : Nat) : TblS Try.prog C X (hand_number.T k) := by
  refine tblOf_sound ?_
  intro e he
  exact absurd he List.not_mem_nil
set_option maxRecDepth 100000 in
theorem hand_number.l0_pass {C : FuncId → Bool} {X : CallF} (hX : XOk C X) (k n : Nat) : PassS Try.prog C X 19 (.loop hand_number.c58) (lrun [(6, .sl), (7, (.int .i64)), (3, (.int .i64)), (8, (.int .i64))] none [(3, (.int .i64))] 0 (fun a h => hand_number.l0 k n (a.1) (a.2.1) (a.2.2.1) (a.2.2.2) h)) :=
  loop_pass (ins := [(6, .sl), (7, (.int .i64)), (3, (.int .i64)), (8, (.int .i64))]) (rets := none) (outs := [(3, (.int .i64))]) (id := 0) (tbl := hand_number.T k) (an := hand_number.an k) (pb := 116) (hand_number.TS hX k) (fun n => (fun a h => hand_number.l0 k n (a.1) (a.2.1) (a.2.2.1) (a.2.2.2) h)) (fun a h => rfl) (fun n a h => by kernel_rfl)
    (by
      have e : need (hand_number.an k) hand_number.c58 116 = [] := by kernel_rfl
      rw [e]; intro q hq; cases hq) n
set_option maxRecDepth 100000 in
theorem hand_number.eq (k : Nat) (a : RT [.sl]) (h : H) : (fun a h => hand_number.f k a h) a h = kfun Try.prog (hand_number.T k) (hand_number.an k) (RT [(.int .i64)] × H) Try.f29 (encL [.sl] a) h (fun vs h' => (decL [(.int .i64)] vs).bind fun x => some (x, h')) := by kernel_rfl
set_option maxRecDepth 100000 in
theorem hand_number.told {C : FuncId → Bool} {X : CallF} (hX : XOk C X) (k : Nat) : Den.Told Try.prog C X 29 [.sl] [(.int .i64)] (fun a h => hand_number.f k a h) :=
  told_of fun a h q e => fn_of (c := hand_number.body) (hand_number.TS hX k) Try.func29 (by kernel_rfl) (hX.no 29 _ h (by decide))
    (by
      have e : need (hand_number.an k) hand_number.body 1 = [(Code.loop hand_number.c58, lrun [(6, .sl), (7, (.int .i64)), (3, (.int .i64)), (8, (.int .i64))] none [(3, (.int .i64))] 0 (fun a h => hand_number.l0 k k (a.1) (a.2.1) (a.2.2.1) (a.2.2.2) h))] := by kernel_rfl
      rw [e]; intro q hq
      rcases List.mem_cons.1 hq with rfl | hq
      · exact hand_number.l0_pass hX k k
      cases hq)
    ((hand_number.eq k a h).symm.trans e)
/-! ### (*corbel/hand.Hand).greet -/
noncomputable def hand_Hand_greet.f (k : Nat) (a0 : Option Addr) (h : H) : Option ((Unit) × H) :=
  (asP (nilA (Value.pointer a0))).bind fun p1 =>
    (asP (fadd 0 p1)).bind fun p2 =>
    (asS (ldc h p2)).bind fun s3 =>
    (asS (subs 1 (Value.slice s3.a s3.n s3.c) none (some (4 : Int)))).bind fun s4 =>
    (hand_number.f k s4 h).bind fun q5 =>
    (asP (nilA (Value.pointer a0))).bind fun p6 =>
    (asP (fadd 0 p6)).bind fun p7 =>
    (asS (ldc q5.2 p7)).bind fun s8 =>
    (asS (subs 1 (Value.slice s8.a s8.n s8.c) (some (4 : Int)) none)).bind fun s9 =>
    (asP (nilA (Value.pointer a0))).bind fun p10 =>
    (asP (fadd 0 p10)).bind fun p11 =>
    (stv 1 q5.2 p11 [(Value.slice s9.a s9.n s9.c)]).bind fun q12 =>
    (asI .i64 (intA .and .i64 q5.1 (2 : Int))).bind fun n13 =>
    (asP (nilA (Value.pointer a0))).bind fun p14 =>
    (asP (fadd 1 p14)).bind fun p15 =>
    (stv 1 q12.2 p15 [(Value.bool true)]).bind fun q16 =>
    (asP (nilA (Value.pointer a0))).bind fun p17 =>
    (asP (fadd 2 p17)).bind fun p18 =>
    (stv 1 q16.2 p18 [(Value.bool (decide (n13 > (0 : Int))))]).bind fun q19 =>
    (asP (nilA (Value.pointer a0))).bind fun p20 =>
    (asP (fadd 5 p20)).bind fun p21 =>
    (stv 1 q19.2 p21 [(Value.bool (decide (q5.1 > (3 : Int))))]).bind fun q22 =>
    some ((), q22.2)
noncomputable def hand_Hand_greet.T (k : Nat) : Tbl := tblOf [⟨29, anyArgs, wr [.sl] [(.int .i64)] (fun a h => hand_number.f k a h)⟩]
noncomputable def hand_Hand_greet.an (k : Nat) (p : Nat) : Option Ann := none
noncomputable def hand_Hand_greet.body : Code := (Try.f28.body).getD .skip
set_option maxRecDepth 100000 in
theorem hand_Hand_greet.TS {C : FuncId → Bool} {X : CallF} (hX : XOk C X) (k : Nat) : TblS Try.prog C X (hand_Hand_greet.T k) := by
  refine tblOf_sound ?_
  intro e he
  rcases List.mem_cons.1 he with rfl | he
  · exact wr_told (hand_number.told hX k)
  exact absurd he List.not_mem_nil
set_option maxRecDepth 100000 in
theorem hand_Hand_greet.eq (k : Nat) (a : RT [.ptr]) (h : H) : (fun a h => hand_Hand_greet.f k a h) a h = kfun Try.prog (hand_Hand_greet.T k) (hand_Hand_greet.an k) (RT [] × H) Try.f28 (encL [.ptr] a) h (fun vs h' => (decL [] vs).bind fun x => some (x, h')) := by kernel_rfl
set_option maxRecDepth 100000 in
theorem hand_Hand_greet.told {C : FuncId → Bool} {X : CallF} (hX : XOk C X) (k : Nat) : Den.Told Try.prog C X 28 [.ptr] [] (fun a h => hand_Hand_greet.f k a h) :=
  told_of fun a h q e => fn_of (c := hand_Hand_greet.body) (hand_Hand_greet.TS hX k) Try.func28 (by kernel_rfl) (hX.no 28 _ h (by decide))
    (by
      have e : need (hand_Hand_greet.an k) hand_Hand_greet.body 1 = [] := by kernel_rfl
      rw [e]; intro q hq; cases hq)
    ((hand_Hand_greet.eq k a h).symm.trans e)
/-! ### corbel/hand.find$1 -/
noncomputable def hand_find_1.f (k : Nat) (a0 : (ByteArray × Int × Bool)) (a1 : Option Addr) (h : H) : Option ((Bool) × H) :=
  (asT (ldc (newR h 35 3 [(Value.string a0.1), (Value.int .i64 a0.2.1), (Value.bool a0.2.2)]) (some ⟨h.next, 0, none⟩))).bind fun s1 =>
    (asT (ldc (newR h 35 3 [(Value.string a0.1), (Value.int .i64 a0.2.1), (Value.bool a0.2.2)]) a1)).bind fun s2 =>
    some (s1.toList == s2.toList, (newR h 35 3 [(Value.string a0.1), (Value.int .i64 a0.2.1), (Value.bool a0.2.2)]))
noncomputable def hand_find_1.T (k : Nat) : Tbl := tblOf []
noncomputable def hand_find_1.an (k : Nat) (p : Nat) : Option Ann := none
noncomputable def hand_find_1.body : Code := (Try.f42.body).getD .skip
set_option maxRecDepth 100000 in
theorem hand_find_1.TS {C : FuncId → Bool} {X : CallF} (hX : XOk C X) (k : Nat) : TblS Try.prog C X (hand_find_1.T k) := by
  refine tblOf_sound ?_
  intro e he
  exact absurd he List.not_mem_nil
set_option maxRecDepth 100000 in
theorem hand_find_1.eq (k : Nat) (a : RT [(.st [.str, (.int .i64), .bool]), .ptr]) (h : H) : (fun a h => hand_find_1.f k (a.1) (a.2) h) a h = kfun Try.prog (hand_find_1.T k) (hand_find_1.an k) (RT [.bool] × H) Try.f42 (encL [(.st [.str, (.int .i64), .bool]), .ptr] a) h (fun vs h' => (decL [.bool] vs).bind fun x => some (x, h')) := by kernel_rfl
set_option maxRecDepth 100000 in
theorem hand_find_1.told {C : FuncId → Bool} {X : CallF} (hX : XOk C X) (k : Nat) : Den.Told Try.prog C X 42 [(.st [.str, (.int .i64), .bool]), .ptr] [.bool] (fun a h => hand_find_1.f k (a.1) (a.2) h) :=
  told_of fun a h q e => fn_of (c := hand_find_1.body) (hand_find_1.TS hX k) Try.func42 (by kernel_rfl) (hX.no 42 _ h (by decide))
    (by
      have e : need (hand_find_1.an k) hand_find_1.body 1 = [] := by kernel_rfl
      rw [e]; intro q hq; cases hq)
    ((hand_find_1.eq k a h).symm.trans e)
/-! ### slices.IndexFunc[[]corbel/hand.Export,corbel/hand.Export] -/
noncomputable def slices_IndexFunc_hand_Export_hand_Export_hand_find_1.l0 (k : Nat) (n : Nat) : Sl → (Option Addr) → Int → Int → H → Option (((Int) ⊕ (Unit)) × H) :=
  Nat.rec (motive := fun _ => Sl → (Option Addr) → Int → Int → H → Option (((Int) ⊕ (Unit)) × H)) (fun _ _ _ _ _ => none) (fun _ ih x1 x2 x3 x4 h5 => cond (decide (x4 < x3))
      ((asP (ixs 3 x1.a x1.n x4)).bind fun p6 =>
    (asSt [.str, (.int .i64), .bool] (lda 3 h5 p6)).bind fun s7 =>
    (hand_find_1.f k (s7.1, s7.2.1, s7.2.2) x2 h5).bind fun q8 =>
    cond q8.1
      (some (Sum.inl x4, q8.2))
      (ih x1 (x2) x3 (wrapA .i64 (x4 + (1 : Int))) q8.2))
      (some (Sum.inr (), h5))) n
theorem slices_IndexFunc_hand_Export_hand_Export_hand_find_1.l0_zero (k : Nat) (x1 : Sl) (x2 : Option Addr) (x3 : Int) (x4 : Int) (h5 : H) : slices_IndexFunc_hand_Export_hand_Export_hand_find_1.l0 k 0 x1 x2 x3 x4 h5 = none := rfl
theorem slices_IndexFunc_hand_Export_hand_Export_hand_find_1.l0_succ (k n : Nat) (x1 : Sl) (x2 : Option Addr) (x3 : Int) (x4 : Int) (h5 : H) : slices_IndexFunc_hand_Export_hand_Export_hand_find_1.l0 k (n + 1) x1 x2 x3 x4 h5 = (cond (decide (x4 < x3))
      ((asP (ixs 3 x1.a x1.n x4)).bind fun p6 =>
    (asSt [.str, (.int .i64), .bool] (lda 3 h5 p6)).bind fun s7 =>
    (hand_find_1.f k (s7.1, s7.2.1, s7.2.2) x2 h5).bind fun q8 =>
    cond q8.1
      (some (Sum.inl x4, q8.2))
      (slices_IndexFunc_hand_Export_hand_Export_hand_find_1.l0 k n x1 (x2) x3 (wrapA .i64 (x4 + (1 : Int))) q8.2))
      (some (Sum.inr (), h5))) := rfl
noncomputable def slices_IndexFunc_hand_Export_hand_Export_hand_find_1.f (k : Nat) (a0 : Sl) (a1 : Option Addr) (h : H) : Option ((Int) × H) :=
  (slices_IndexFunc_hand_Export_hand_Export_hand_find_1.l0 k k a0 (a1) (Int.ofNat a0.n) (0 : Int) h).bind fun w9 =>
    match w9.1 with
    | .inl r10 => some (r10, w9.2)
    | .inr o11 => some ((-1 : Int), w9.2)
noncomputable def slices_IndexFunc_hand_Export_hand_Export_hand_find_1.T (k : Nat) : Tbl := tblOf [⟨42, anyArgs, wr [(.st [.str, (.int .i64), .bool]), .ptr] [.bool] (fun a h => hand_find_1.f k (a.1) (a.2) h)⟩]
noncomputable def slices_IndexFunc_hand_Export_hand_Export_hand_find_1.an (k : Nat) (p : Nat) : Option Ann := cond (Nat.beq p 26) (some (.pass [] (lrun [(0, .sl), (1, (.fn 42 1)), (7, (.int .i64)), (8, (.int .i64))] (some [(4, (.int .i64))]) [] 0 (fun a h => slices_IndexFunc_hand_Export_hand_Export_hand_find_1.l0 k k (a.1) (a.2.1) (a.2.2.1) (a.2.2.2) h))))
  (none)
noncomputable def slices_IndexFunc_hand_Export_hand_Export_hand_find_1.body : Code := (Try.f41.body).getD .skip
noncomputable def slices_IndexFunc_hand_Export_hand_Export_hand_find_1.c26 : Code := cat slices_IndexFunc_hand_Export_hand_Export_hand_find_1.body [1, 0, 1, 0, 0]
set_option maxRecDepth 100000 in
theorem slices_IndexFunc_hand_Export_hand_Export_hand_find_1.TS {C : FuncId → Bool} {X : CallF} (hX : XOk C X) (k : Nat) : TblS Try.prog C X (slices_IndexFunc_hand_Export_hand_Export_hand_find_1.T k) := by
  refine tblOf_sound ?_
  intro e he
  rcases List.mem_cons.1 he with rfl | he
  · exact wr_told (hand_find_1.told hX k)
  exact absurd he List.not_mem_nil
set_option maxRecDepth 100000 in
theorem slices_IndexFunc_hand_Export_hand_Export_hand_find_1.l0_pass {C : FuncId → Bool} {X : CallF} (hX : XOk C X) (k n : Nat) : PassS Try.prog C X 19 (.loop slices_IndexFunc_hand_Export_hand_Export_hand_find_1.c26) (lrun [(0, .sl), (1, (.fn 42 1)), (7, (.int .i64)), (8, (.int .i64))] (some [(4, (.int .i64))]) [] 0 (fun a h => slices_IndexFunc_hand_Export_hand_Export_hand_find_1.l0 k n (a.1) (a.2.1) (a.2.2.1) (a.2.2.2) h)) :=
  loop_pass (ins := [(0, .sl), (1, (.fn 42 1)), (7, (.int .i64)), (8, (.int .i64))]) (rets := (some [(4, (.int .i64))])) (outs := []) (id := 0) (tbl := slices_IndexFunc_hand_Export_hand_Export_hand_find_1.T k) (an := slices_IndexFunc_hand_Export_hand_Export_hand_find_1.an k) (pb := 52) (slices_IndexFunc_hand_Export_hand_Export_hand_find_1.TS hX k) (fun n => (fun a h => slices_IndexFunc_hand_Export_hand_Export_hand_find_1.l0 k n (a.1) (a.2.1) (a.2.2.1) (a.2.2.2) h)) (fun a h => rfl) (fun n a h => by kernel_rfl)
    (by
      have e : need (slices_IndexFunc_hand_Export_hand_Export_hand_find_1.an k) slices_IndexFunc_hand_Export_hand_Export_hand_find_1.c26 52 = [] := by kernel_rfl
      rw [e]; intro q hq; cases hq) n
set_option maxRecDepth 100000 in
theorem slices_IndexFunc_hand_Export_hand_Export_hand_find_1.eq (k : Nat) (a : RT [.sl, (.fn 42 1)]) (h : H) : (fun a h => slices_IndexFunc_hand_Export_hand_Export_hand_find_1.f k (a.1) (a.2) h) a h = kfun Try.prog (slices_IndexFunc_hand_Export_hand_Export_hand_find_1.T k) (slices_IndexFunc_hand_Export_hand_Export_hand_find_1.an k) (RT [(.int .i64)] × H) Try.f41 (encL [.sl, (.fn 42 1)] a) h (fun vs h' => (decL [(.int .i64)] vs).bind fun x => some (x, h')) := by kernel_rfl
set_option maxRecDepth 100000 in
theorem slices_IndexFunc_hand_Export_hand_Export_hand_find_1.told {C : FuncId → Bool} {X : CallF} (hX : XOk C X) (k : Nat) : Den.Told Try.prog C X 41 [.sl, (.fn 42 1)] [(.int .i64)] (fun a h => slices_IndexFunc_hand_Export_hand_Export_hand_find_1.f k (a.1) (a.2) h) :=
  told_of fun a h q e => fn_of (c := slices_IndexFunc_hand_Export_hand_Export_hand_find_1.body) (slices_IndexFunc_hand_Export_hand_Export_hand_find_1.TS hX k) Try.func41 (by kernel_rfl) (hX.no 41 _ h (by decide))
    (by
      have e : need (slices_IndexFunc_hand_Export_hand_Export_hand_find_1.an k) slices_IndexFunc_hand_Export_hand_Export_hand_find_1.body 1 = [(Code.loop slices_IndexFunc_hand_Export_hand_Export_hand_find_1.c26, lrun [(0, .sl), (1, (.fn 42 1)), (7, (.int .i64)), (8, (.int .i64))] (some [(4, (.int .i64))]) [] 0 (fun a h => slices_IndexFunc_hand_Export_hand_Export_hand_find_1.l0 k k (a.1) (a.2.1) (a.2.2.1) (a.2.2.2) h))] := by kernel_rfl
      rw [e]; intro q hq
      rcases List.mem_cons.1 hq with rfl | hq
      · exact slices_IndexFunc_hand_Export_hand_Export_hand_find_1.l0_pass hX k k
      cases hq)
    ((slices_IndexFunc_hand_Export_hand_Export_hand_find_1.eq k a h).symm.trans e)
/-! ### corbel/hand.find -/
noncomputable def hand_find.f (k : Nat) (a0 : Sl) (a1 : ByteArray) (h : H) : Option (((ByteArray × Int × Bool) × Bool) × H) :=
  (slices_IndexFunc_hand_Export_hand_Export_hand_find_1.f k a0 ((some ⟨h.next, 0, none⟩)) (newR (newR h 9 1 [(Value.string a1)]) 35 3 [(Value.string (⟨#[]⟩ : ByteArray)), (Value.int .i64 (0 : Int)), (Value.bool false)])).bind fun q1 =>
    cond (decide (q1.1 < (0 : Int)))
      ((stv 3 q1.2 (some ⟨(newR h 9 1 [(Value.string a1)]).next, 0, none⟩) [(Value.string (⟨#[]⟩ : ByteArray)), (Value.int .i64 (0 : Int)), (Value.bool false)]).bind fun q2 =>
    (asSt [.str, (.int .i64), .bool] (lda 3 q2.2 (some ⟨(newR h 9 1 [(Value.string a1)]).next, 0, none⟩))).bind fun s3 =>
    some (((s3.1, s3.2.1, s3.2.2), false), q2.2))
      ((asP (ixs 3 a0.a a0.n q1.1)).bind fun p4 =>
    (asSt [.str, (.int .i64), .bool] (lda 3 q1.2 p4)).bind fun s5 =>
    (stv 3 q1.2 (some ⟨(newR h 9 1 [(Value.string a1)]).next, 0, none⟩) [(Value.string s5.1), (Value.int .i64 s5.2.1), (Value.bool s5.2.2)]).bind fun q6 =>
    (asSt [.str, (.int .i64), .bool] (lda 3 q6.2 (some ⟨(newR h 9 1 [(Value.string a1)]).next, 0, none⟩))).bind fun s7 =>
    some (((s7.1, s7.2.1, s7.2.2), true), q6.2))
noncomputable def hand_find.T (k : Nat) : Tbl := tblOf [⟨41, chkF [(1, 42)], wr [.sl, (.fn 42 1)] [(.int .i64)] (fun a h => slices_IndexFunc_hand_Export_hand_Export_hand_find_1.f k (a.1) (a.2) h)⟩]
noncomputable def hand_find.an (k : Nat) (p : Nat) : Option Ann := none
noncomputable def hand_find.body : Code := (Try.f35.body).getD .skip
set_option maxRecDepth 100000 in
theorem hand_find.TS {C : FuncId → Bool} {X : CallF} (hX : XOk C X) (k : Nat) : TblS Try.prog C X (hand_find.T k) := by
  refine tblOf_sound ?_
  intro e he
  rcases List.mem_cons.1 he with rfl | he
  · exact wr_told (slices_IndexFunc_hand_Export_hand_Export_hand_find_1.told hX k)
  exact absurd he List.not_mem_nil
set_option maxRecDepth 100000 in
theorem hand_find.eq (k : Nat) (a : RT [.sl, .str]) (h : H) : (fun a h => hand_find.f k (a.1) (a.2) h) a h = kfun Try.prog (hand_find.T k) (hand_find.an k) (RT [(.st [.str, (.int .i64), .bool]), .bool] × H) Try.f35 (encL [.sl, .str] a) h (fun vs h' => (decL [(.st [.str, (.int .i64), .bool]), .bool] vs).bind fun x => some (x, h')) := by kernel_rfl
set_option maxRecDepth 100000 in
theorem hand_find.told {C : FuncId → Bool} {X : CallF} (hX : XOk C X) (k : Nat) : Den.Told Try.prog C X 35 [.sl, .str] [(.st [.str, (.int .i64), .bool]), .bool] (fun a h => hand_find.f k (a.1) (a.2) h) :=
  told_of fun a h q e => fn_of (c := hand_find.body) (hand_find.TS hX k) Try.func35 (by kernel_rfl) (hX.no 35 _ h (by decide))
    (by
      have e : need (hand_find.an k) hand_find.body 1 = [] := by kernel_rfl
      rw [e]; intro q hq; cases hq)
    ((hand_find.eq k a h).symm.trans e)
/-! ### (*corbel/hand.Hand).choose -/
noncomputable def hand_Hand_choose.f (k : Nat) (a0 : Option Addr) (a1 : ByteArray) (h : H) : Option ((Unit) × H) :=
  (asP (nilA (Value.pointer a0))).bind fun p1 =>
    (asP (fadd 3 p1)).bind fun p2 =>
    (stv 1 h p2 [(Value.string a1)]).bind fun q3 =>
    (asP (nilA (Value.pointer a0))).bind fun p4 =>
    (asP (fadd 4 p4)).bind fun p5 =>
    (stv 1 q3.2 p5 [(Value.bool true)]).bind fun q6 =>
    some ((), q6.2)
noncomputable def hand_Hand_choose.T (k : Nat) : Tbl := tblOf []
noncomputable def hand_Hand_choose.an (k : Nat) (p : Nat) : Option Ann := none
noncomputable def hand_Hand_choose.body : Code := (Try.f36.body).getD .skip
set_option maxRecDepth 100000 in
theorem hand_Hand_choose.TS {C : FuncId → Bool} {X : CallF} (hX : XOk C X) (k : Nat) : TblS Try.prog C X (hand_Hand_choose.T k) := by
  refine tblOf_sound ?_
  intro e he
  exact absurd he List.not_mem_nil
set_option maxRecDepth 100000 in
theorem hand_Hand_choose.eq (k : Nat) (a : RT [.ptr, .str]) (h : H) : (fun a h => hand_Hand_choose.f k (a.1) (a.2) h) a h = kfun Try.prog (hand_Hand_choose.T k) (hand_Hand_choose.an k) (RT [] × H) Try.f36 (encL [.ptr, .str] a) h (fun vs h' => (decL [] vs).bind fun x => some (x, h')) := by kernel_rfl
set_option maxRecDepth 100000 in
theorem hand_Hand_choose.told {C : FuncId → Bool} {X : CallF} (hX : XOk C X) (k : Nat) : Den.Told Try.prog C X 36 [.ptr, .str] [] (fun a h => hand_Hand_choose.f k (a.1) (a.2) h) :=
  told_of fun a h q e => fn_of (c := hand_Hand_choose.body) (hand_Hand_choose.TS hX k) Try.func36 (by kernel_rfl) (hX.no 36 _ h (by decide))
    (by
      have e : need (hand_Hand_choose.an k) hand_Hand_choose.body 1 = [] := by kernel_rfl
      rw [e]; intro q hq; cases hq)
    ((hand_Hand_choose.eq k a h).symm.trans e)
/-! ### corbel/hand.bytes -/
noncomputable def hand_bytes.l0 (k : Nat) (n : Nat) : Int → Sl → Int → H → Option ((Sl) × H) :=
  Nat.rec (motive := fun _ => Int → Sl → Int → H → Option ((Sl) × H)) (fun _ _ _ _ => none) (fun _ ih x1 x2 x3 h4 => cond (decide (x3 ≥ (0 : Int)))
      ((asI .i64 (binA Try.prog .shr 3 (Value.int .i64 x1) (Value.int .i64 (wrapA .i64 ((8 : Int) * x3))))).bind fun n5 =>
    (asS2 (apv 5 1 1 (Value.slice x2.a x2.n x2.c) (Value.slice (some ⟨h4.next, 0, none⟩) 1 1) (newR h4 5 1 [(Value.int .u8 (wrapA .u8 n5))]))).bind fun q6 =>
    ih x1 q6.1 (wrapA .i64 (x3 - (1 : Int))) q6.2)
      (some (x2, h4))) n
theorem hand_bytes.l0_zero (k : Nat) (x1 : Int) (x2 : Sl) (x3 : Int) (h4 : H) : hand_bytes.l0 k 0 x1 x2 x3 h4 = none := rfl
theorem hand_bytes.l0_succ (k n : Nat) (x1 : Int) (x2 : Sl) (x3 : Int) (h4 : H) : hand_bytes.l0 k (n + 1) x1 x2 x3 h4 = (cond (decide (x3 ≥ (0 : Int)))
      ((asI .i64 (binA Try.prog .shr 3 (Value.int .i64 x1) (Value.int .i64 (wrapA .i64 ((8 : Int) * x3))))).bind fun n5 =>
    (asS2 (apv 5 1 1 (Value.slice x2.a x2.n x2.c) (Value.slice (some ⟨h4.next, 0, none⟩) 1 1) (newR h4 5 1 [(Value.int .u8 (wrapA .u8 n5))]))).bind fun q6 =>
    hand_bytes.l0 k n x1 q6.1 (wrapA .i64 (x3 - (1 : Int))) q6.2)
      (some (x2, h4))) := rfl
noncomputable def hand_bytes.f (k : Nat) (a0 : Int) (a1 : Int) (h : H) : Option ((Sl) × H) :=
  (hand_bytes.l0 k k a0 (⟨none, 0, 0⟩ : Sl) (wrapA .i64 (a1 - (1 : Int))) h).bind fun w7 =>
    some (w7.1, w7.2)
noncomputable def hand_bytes.T (k : Nat) : Tbl := tblOf []
noncomputable def hand_bytes.an (k : Nat) (p : Nat) : Option Ann := cond (Nat.beq p 58) (some (.pass [] (lrun [(0, (.int .i64)), (5, .sl), (6, (.int .i64))] none [(5, .sl)] 0 (fun a h => hand_bytes.l0 k k (a.1) (a.2.1) (a.2.2) h))))
  (none)
noncomputable def hand_bytes.body : Code := (Try.f38.body).getD .skip
noncomputable def hand_bytes.c58 : Code := cat hand_bytes.body [1, 1, 0, 1, 0, 0]
set_option maxRecDepth 100000 in
theorem hand_bytes.TS {C : FuncId → Bool} {X : CallF} (hX : XOk C X) (k : Nat) : TblS Try.prog C X (hand_bytes.T k) := by
  refine tblOf_sound ?_
  intro e he
  exact absurd he List.not_mem_nil
set_option maxRecDepth 100000 in
theorem hand_bytes.l0_pass {C : FuncId → Bool} {X : CallF} (hX : XOk C X) (k n : Nat) : PassS Try.prog C X 22 (.loop hand_bytes.c58) (lrun [(0, (.int .i64)), (5, .sl), (6, (.int .i64))] none [(5, .sl)] 0 (fun a h => hand_bytes.l0 k n (a.1) (a.2.1) (a.2.2) h)) :=
  loop_pass (ins := [(0, (.int .i64)), (5, .sl), (6, (.int .i64))]) (rets := none) (outs := [(5, .sl)]) (id := 0) (tbl := hand_bytes.T k) (an := hand_bytes.an k) (pb := 116) (hand_bytes.TS hX k) (fun n => (fun a h => hand_bytes.l0 k n (a.1) (a.2.1) (a.2.2) h)) (fun a h => rfl) (fun n a h => by kernel_rfl)
    (by
      have e : need (hand_bytes.an k) hand_bytes.c58 116 = [] := by kernel_rfl
      rw [e]; intro q hq; cases hq) n
set_option maxRecDepth 100000 in
theorem hand_bytes.eq (k : Nat) (a : RT [(.int .i64), (.int .i64)]) (h : H) : (fun a h => hand_bytes.f k (a.1) (a.2) h) a h = kfun Try.prog (hand_bytes.T k) (hand_bytes.an k) (RT [.sl] × H) Try.f38 (encL [(.int .i64), (.int .i64)] a) h (fun vs h' => (decL [.sl] vs).bind fun x => some (x, h')) := by kernel_rfl
set_option maxRecDepth 100000 in
theorem hand_bytes.told {C : FuncId → Bool} {X : CallF} (hX : XOk C X) (k : Nat) : Den.Told Try.prog C X 38 [(.int .i64), (.int .i64)] [.sl] (fun a h => hand_bytes.f k (a.1) (a.2) h) :=
  told_of fun a h q e => fn_of (c := hand_bytes.body) (hand_bytes.TS hX k) Try.func38 (by kernel_rfl) (hX.no 38 _ h (by decide))
    (by
      have e : need (hand_bytes.an k) hand_bytes.body 1 = [(Code.loop hand_bytes.c58, lrun [(0, (.int .i64)), (5, .sl), (6, (.int .i64))] none [(5, .sl)] 0 (fun a h => hand_bytes.l0 k k (a.1) (a.2.1) (a.2.2) h))] := by kernel_rfl
      rw [e]; intro q hq
      rcases List.mem_cons.1 hq with rfl | hq
      · exact hand_bytes.l0_pass hX k k
      cases hq)
    ((hand_bytes.eq k a h).symm.trans e)
/-! ### corbel/hand.sized -/
noncomputable def hand_sized.f (k : Nat) (a0 : (ByteArray × Int × Bool)) (h : H) : Option ((Sl) × H) :=
  (asI .i64 (ldc (newR h 35 3 [(Value.string a0.1), (Value.int .i64 a0.2.1), (Value.bool a0.2.2)]) (some ⟨h.next, 1, none⟩))).bind fun n1 =>
    (hand_bytes.f k (wrapA .i64 (n1 * (16 : Int))) (8 : Int) (newR h 35 3 [(Value.string a0.1), (Value.int .i64 a0.2.1), (Value.bool a0.2.2)])).bind fun q2 =>
    (asSt [.str, (.int .i64), .bool] (lda 3 q2.2 (some ⟨h.next, 0, none⟩))).bind fun s3 =>
    (hand_Flags.f k (s3.1, s3.2.1, s3.2.2) q2.2).bind fun q4 =>
    (hand_bytes.f k q4.1 (2 : Int) q4.2).bind fun q5 =>
    (slices_Concat_byte_byte.f k (⟨(some ⟨q5.2.next, 0, none⟩), 2, 2⟩ : Sl) (newR q5.2 25 1 [(Value.slice q2.1.a q2.1.n q2.1.c), (Value.slice q5.1.a q5.1.n q5.1.c)])).bind fun q6 =>
    cond (same1 (newR h 35 3 [(Value.string a0.1), (Value.int .i64 a0.2.1), (Value.bool a0.2.2)]) q2.2 (some (Value.pointer (some ⟨h.next, 0, none⟩))) && (true)) (some (q6.1, q6.2)) none
noncomputable def hand_sized.T (k : Nat) : Tbl := tblOf [⟨38, anyArgs, wr [(.int .i64), (.int .i64)] [.sl] (fun a h => hand_bytes.f k (a.1) (a.2) h)⟩,
  ⟨14, anyArgs, wr [(.st [.str, (.int .i64), .bool])] [(.int .i64)] (fun a h => hand_Flags.f k a h)⟩,
  ⟨23, anyArgs, wr [.sl] [.sl] (fun a h => slices_Concat_byte_byte.f k a h)⟩]
noncomputable def hand_sized.an (k : Nat) (p : Nat) : Option Ann := none
noncomputable def hand_sized.body : Code := (Try.f37.body).getD .skip
set_option maxRecDepth 100000 in
theorem hand_sized.TS {C : FuncId → Bool} {X : CallF} (hX : XOk C X) (k : Nat) : TblS Try.prog C X (hand_sized.T k) := by
  refine tblOf_sound ?_
  intro e he
  rcases List.mem_cons.1 he with rfl | he
  · exact wr_told (hand_bytes.told hX k)
  rcases List.mem_cons.1 he with rfl | he
  · exact wr_told (hand_Flags.told hX k)
  rcases List.mem_cons.1 he with rfl | he
  · exact wr_told (slices_Concat_byte_byte.told hX k)
  exact absurd he List.not_mem_nil
set_option maxRecDepth 100000 in
theorem hand_sized.eq (k : Nat) (a : RT [(.st [.str, (.int .i64), .bool])]) (h : H) : (fun a h => hand_sized.f k a h) a h = kfun Try.prog (hand_sized.T k) (hand_sized.an k) (RT [.sl] × H) Try.f37 (encL [(.st [.str, (.int .i64), .bool])] a) h (fun vs h' => (decL [.sl] vs).bind fun x => some (x, h')) := by kernel_rfl
set_option maxRecDepth 100000 in
theorem hand_sized.told {C : FuncId → Bool} {X : CallF} (hX : XOk C X) (k : Nat) : Den.Told Try.prog C X 37 [(.st [.str, (.int .i64), .bool])] [.sl] (fun a h => hand_sized.f k a h) :=
  told_of fun a h q e => fn_of (c := hand_sized.body) (hand_sized.TS hX k) Try.func37 (by kernel_rfl) (hX.no 37 _ h (by decide))
    (by
      have e : need (hand_sized.an k) hand_sized.body 1 = [] := by kernel_rfl
      rw [e]; intro q hq; cases hq)
    ((hand_sized.eq k a h).symm.trans e)
/-! ### (*corbel/hand.Hand).named -/
noncomputable def hand_Hand_named.f (k : Nat) (a0 : Option Addr) (a1 : Sl) (a2 : ByteArray) (h : H) : Option ((Sl) × H) :=
  (hand_find.f k a1 a2 h).bind fun q1 =>
    (stv 3 (newR q1.2 35 3 [(Value.string (⟨#[]⟩ : ByteArray)), (Value.int .i64 (0 : Int)), (Value.bool false)]) (some ⟨q1.2.next, 0, none⟩) [(Value.string q1.1.1.1), (Value.int .i64 q1.1.1.2.1), (Value.bool q1.1.1.2.2)]).bind fun q2 =>
    cond (!q1.1.2)
      ((asP (nilA (Value.pointer a0))).bind fun p3 =>
    (asP (fadd 5 p3)).bind fun p4 =>
    (stv 1 q2.2 p4 [(Value.bool true)]).bind fun q5 =>
    some ((⟨none, 0, 0⟩ : Sl), q5.2))
      ((hand_Hand_choose.f k a0 a2 q2.2).bind fun q6 =>
    (asSt [.str, (.int .i64), .bool] (lda 3 q6.2 (some ⟨q1.2.next, 0, none⟩))).bind fun s7 =>
    (hand_sized.f k (s7.1, s7.2.1, s7.2.2) q6.2).bind fun q8 =>
    (asP (nilA (Value.pointer a0))).bind fun p9 =>
    (asP (fadd 2 p9)).bind fun p10 =>
    (asB (ldc q8.2 p10)).bind fun b11 =>
    (cond (!b11)
      ((asS2 (apz 5 1 1 [(Value.int .u8 (0 : Int))] (Value.slice q8.1.a q8.1.n q8.1.c) (124 : Int) q8.2)).bind fun q12 =>
    some (q12.1, q12.2))
      (some (q8.1, q8.2)) : Option ((Sl) × H)).bind fun j13 =>
    some (j13.1, j13.2))
noncomputable def hand_Hand_named.T (k : Nat) : Tbl := tblOf [⟨35, anyArgs, wr [.sl, .str] [(.st [.str, (.int .i64), .bool]), .bool] (fun a h => hand_find.f k (a.1) (a.2) h)⟩,
  ⟨36, anyArgs, wr [.ptr, .str] [] (fun a h => hand_Hand_choose.f k (a.1) (a.2) h)⟩,
  ⟨37, anyArgs, wr [(.st [.str, (.int .i64), .bool])] [.sl] (fun a h => hand_sized.f k a h)⟩]
noncomputable def hand_Hand_named.an (k : Nat) (p : Nat) : Option Ann := cond (Nat.beq p 253) (some (.join [] none [(9, .sl)]))
  (none)
noncomputable def hand_Hand_named.body : Code := (Try.f31.body).getD .skip
set_option maxRecDepth 100000 in
theorem hand_Hand_named.TS {C : FuncId → Bool} {X : CallF} (hX : XOk C X) (k : Nat) : TblS Try.prog C X (hand_Hand_named.T k) := by
  refine tblOf_sound ?_
  intro e he
  rcases List.mem_cons.1 he with rfl | he
  · exact wr_told (hand_find.told hX k)
  rcases List.mem_cons.1 he with rfl | he
  · exact wr_told (hand_Hand_choose.told hX k)
  rcases List.mem_cons.1 he with rfl | he
  · exact wr_told (hand_sized.told hX k)
  exact absurd he List.not_mem_nil
set_option maxRecDepth 100000 in
theorem hand_Hand_named.eq (k : Nat) (a : RT [.ptr, .sl, .str]) (h : H) : (fun a h => hand_Hand_named.f k (a.1) (a.2.1) (a.2.2) h) a h = kfun Try.prog (hand_Hand_named.T k) (hand_Hand_named.an k) (RT [.sl] × H) Try.f31 (encL [.ptr, .sl, .str] a) h (fun vs h' => (decL [.sl] vs).bind fun x => some (x, h')) := by kernel_rfl
set_option maxRecDepth 100000 in
theorem hand_Hand_named.told {C : FuncId → Bool} {X : CallF} (hX : XOk C X) (k : Nat) : Den.Told Try.prog C X 31 [.ptr, .sl, .str] [.sl] (fun a h => hand_Hand_named.f k (a.1) (a.2.1) (a.2.2) h) :=
  told_of fun a h q e => fn_of (c := hand_Hand_named.body) (hand_Hand_named.TS hX k) Try.func31 (by kernel_rfl) (hX.no 31 _ h (by decide))
    (by
      have e : need (hand_Hand_named.an k) hand_Hand_named.body 1 = [] := by kernel_rfl
      rw [e]; intro q hq; cases hq)
    ((hand_Hand_named.eq k a h).symm.trans e)
/-! ### corbel/hand.reply -/
noncomputable def hand_reply.f (k : Nat) (a0 : Int) (a1 : Int) (a2 : Sl) (h : H) : Option ((Sl) × H) :=
  (hand_bytes.f k a0 (4 : Int) (newR h 5 1 [(Value.int .u8 (0 : Int)), (Value.int .u8 (3 : Int)), (Value.int .u8 (232 : Int)), (Value.int .u8 (137 : Int)), (Value.int .u8 (4 : Int)), (Value.int .u8 (85 : Int)), (Value.int .u8 (101 : Int)), (Value.int .u8 (169 : Int))])).bind fun q1 =>
    (hand_bytes.f k a1 (4 : Int) q1.2).bind fun q2 =>
    (hand_bytes.f k (Int.ofNat a2.n) (4 : Int) q2.2).bind fun q3 =>
    (slices_Concat_byte_byte.f k (⟨(some ⟨q3.2.next, 0, none⟩), 5, 5⟩ : Sl) (newR q3.2 25 1 [(Value.slice (some ⟨h.next, 0, none⟩) 8 8), (Value.slice q1.1.a q1.1.n q1.1.c), (Value.slice q2.1.a q2.1.n q2.1.c), (Value.slice q3.1.a q3.1.n q3.1.c), (Value.slice a2.a a2.n a2.c)])).bind fun q4 =>
    some (q4.1, q4.2)
noncomputable def hand_reply.T (k : Nat) : Tbl := tblOf [⟨38, anyArgs, wr [(.int .i64), (.int .i64)] [.sl] (fun a h => hand_bytes.f k (a.1) (a.2) h)⟩,
  ⟨23, anyArgs, wr [.sl] [.sl] (fun a h => slices_Concat_byte_byte.f k a h)⟩]
noncomputable def hand_reply.an (k : Nat) (p : Nat) : Option Ann := none
noncomputable def hand_reply.body : Code := (Try.f32.body).getD .skip
set_option maxRecDepth 100000 in
theorem hand_reply.TS {C : FuncId → Bool} {X : CallF} (hX : XOk C X) (k : Nat) : TblS Try.prog C X (hand_reply.T k) := by
  refine tblOf_sound ?_
  intro e he
  rcases List.mem_cons.1 he with rfl | he
  · exact wr_told (hand_bytes.told hX k)
  rcases List.mem_cons.1 he with rfl | he
  · exact wr_told (slices_Concat_byte_byte.told hX k)
  exact absurd he List.not_mem_nil
set_option maxRecDepth 100000 in
theorem hand_reply.eq (k : Nat) (a : RT [(.int .i64), (.int .i64), .sl]) (h : H) : (fun a h => hand_reply.f k (a.1) (a.2.1) (a.2.2) h) a h = kfun Try.prog (hand_reply.T k) (hand_reply.an k) (RT [.sl] × H) Try.f32 (encL [(.int .i64), (.int .i64), .sl] a) h (fun vs h' => (decL [.sl] vs).bind fun x => some (x, h')) := by kernel_rfl
set_option maxRecDepth 100000 in
theorem hand_reply.told {C : FuncId → Bool} {X : CallF} (hX : XOk C X) (k : Nat) : Den.Told Try.prog C X 32 [(.int .i64), (.int .i64), .sl] [.sl] (fun a h => hand_reply.f k (a.1) (a.2.1) (a.2.2) h) :=
  told_of fun a h q e => fn_of (c := hand_reply.body) (hand_reply.TS hX k) Try.func32 (by kernel_rfl) (hX.no 32 _ h (by decide))
    (by
      have e : need (hand_reply.an k) hand_reply.body 1 = [] := by kernel_rfl
      rw [e]; intro q hq; cases hq)
    ((hand_reply.eq k a h).symm.trans e)
/-! ### corbel/hand.told -/
noncomputable def hand_told.l0 (k : Nat) (n : Nat) : Sl → Int → Sl → Int → H → Option ((Sl) × H) :=
  Nat.rec (motive := fun _ => Sl → Int → Sl → Int → H → Option ((Sl) × H)) (fun _ _ _ _ _ => none) (fun _ ih x2 x3 x4 x5 h6 => cond (decide (x5 < x3))
      ((asP (ixs 3 x2.a x2.n x5)).bind fun p7 =>
    (asSt [.str, (.int .i64), .bool] (lda 3 h6 p7)).bind fun s8 =>
    (stv 3 (newR h6 35 3 [(Value.string (⟨#[]⟩ : ByteArray)), (Value.int .i64 (0 : Int)), (Value.bool false)]) (some ⟨h6.next, 0, none⟩) [(Value.string s8.1), (Value.int .i64 s8.2.1), (Value.bool s8.2.2)]).bind fun q9 =>
    (asT (ldc q9.2 (some ⟨h6.next, 0, none⟩))).bind fun s10 =>
    (hand_bytes.f k (Int.ofNat s10.data.toList.length) (4 : Int) q9.2).bind fun q11 =>
    (asT (ldc q11.2 (some ⟨h6.next, 0, none⟩))).bind fun s12 =>
    (slices_Concat_byte_byte.f k (⟨(some ⟨(newT q11.2 5 s12).next, 0, none⟩), 2, 2⟩ : Sl) (newR (newT q11.2 5 s12) 25 1 [(Value.slice q11.1.a q11.1.n q11.1.c), (Value.slice (some ⟨q11.2.next, 0, none⟩) s12.data.toList.length (unkOf 1))])).bind fun q13 =>
    (hand_reply.f k (3 : Int) (2 : Int) q13.1 q13.2).bind fun q14 =>
    (asS2 (apv 5 1 1 (Value.slice x4.a x4.n x4.c) (Value.slice q14.1.a q14.1.n q14.1.c) q14.2)).bind fun q15 =>
    cond (same1 q9.2 q11.2 (some (Value.pointer (some ⟨h6.next, 0, none⟩))) && (true)) (ih x2 x3 q15.1 (wrapA .i64 (x5 + (1 : Int))) q15.2) none)
      (some (x4, h6))) n
theorem hand_told.l0_zero (k : Nat) (x2 : Sl) (x3 : Int) (x4 : Sl) (x5 : Int) (h6 : H) : hand_told.l0 k 0 x2 x3 x4 x5 h6 = none := rfl
theorem hand_told.l0_succ (k n : Nat) (x2 : Sl) (x3 : Int) (x4 : Sl) (x5 : Int) (h6 : H) : hand_told.l0 k (n + 1) x2 x3 x4 x5 h6 = (cond (decide (x5 < x3))
      ((asP (ixs 3 x2.a x2.n x5)).bind fun p7 =>
    (asSt [.str, (.int .i64), .bool] (lda 3 h6 p7)).bind fun s8 =>
    (stv 3 (newR h6 35 3 [(Value.string (⟨#[]⟩ : ByteArray)), (Value.int .i64 (0 : Int)), (Value.bool false)]) (some ⟨h6.next, 0, none⟩) [(Value.string s8.1), (Value.int .i64 s8.2.1), (Value.bool s8.2.2)]).bind fun q9 =>
    (asT (ldc q9.2 (some ⟨h6.next, 0, none⟩))).bind fun s10 =>
    (hand_bytes.f k (Int.ofNat s10.data.toList.length) (4 : Int) q9.2).bind fun q11 =>
    (asT (ldc q11.2 (some ⟨h6.next, 0, none⟩))).bind fun s12 =>
    (slices_Concat_byte_byte.f k (⟨(some ⟨(newT q11.2 5 s12).next, 0, none⟩), 2, 2⟩ : Sl) (newR (newT q11.2 5 s12) 25 1 [(Value.slice q11.1.a q11.1.n q11.1.c), (Value.slice (some ⟨q11.2.next, 0, none⟩) s12.data.toList.length (unkOf 1))])).bind fun q13 =>
    (hand_reply.f k (3 : Int) (2 : Int) q13.1 q13.2).bind fun q14 =>
    (asS2 (apv 5 1 1 (Value.slice x4.a x4.n x4.c) (Value.slice q14.1.a q14.1.n q14.1.c) q14.2)).bind fun q15 =>
    cond (same1 q9.2 q11.2 (some (Value.pointer (some ⟨h6.next, 0, none⟩))) && (true)) (hand_told.l0 k n x2 x3 q15.1 (wrapA .i64 (x5 + (1 : Int))) q15.2) none)
      (some (x4, h6))) := rfl
noncomputable def hand_told.f (k : Nat) (a0 : Sl) (a1 : Sl) (h : H) : Option ((Sl) × H) :=
  cond (decide ((Int.ofNat a1.n) > (0 : Int)))
      ((hand_reply.f k (3 : Int) (2147483651 : Int) (⟨none, 0, 0⟩ : Sl) h).bind fun q1 =>
    some (q1.1, q1.2))
      ((hand_told.l0 k k a0 (Int.ofNat a0.n) (⟨none, 0, 0⟩ : Sl) (0 : Int) h).bind fun w16 =>
    (hand_reply.f k (3 : Int) (1 : Int) (⟨none, 0, 0⟩ : Sl) w16.2).bind fun q17 =>
    (asS2 (apv 5 1 1 (Value.slice w16.1.a w16.1.n w16.1.c) (Value.slice q17.1.a q17.1.n q17.1.c) q17.2)).bind fun q18 =>
    some (q18.1, q18.2))
noncomputable def hand_told.T (k : Nat) : Tbl := tblOf [⟨32, anyArgs, wr [(.int .i64), (.int .i64), .sl] [.sl] (fun a h => hand_reply.f k (a.1) (a.2.1) (a.2.2) h)⟩,
  ⟨38, anyArgs, wr [(.int .i64), (.int .i64)] [.sl] (fun a h => hand_bytes.f k (a.1) (a.2) h)⟩,
  ⟨23, anyArgs, wr [.sl] [.sl] (fun a h => slices_Concat_byte_byte.f k a h)⟩]
noncomputable def hand_told.an (k : Nat) (p : Nat) : Option Ann := cond (Nat.beq p 122) (some (.pass [] (lrun [(12, .sl), (13, (.int .i64)), (5, .sl), (14, (.int .i64))] none [(5, .sl)] 0 (fun a h => hand_told.l0 k k (a.1) (a.2.1) (a.2.2.1) (a.2.2.2) h))))
  (none)
noncomputable def hand_told.body : Code := (Try.f33.body).getD .skip
noncomputable def hand_told.c122 : Code := cat hand_told.body [1, 1, 1, 0, 1, 0, 0]
set_option maxRecDepth 100000 in
theorem hand_told.TS {C : FuncId → Bool} {X : CallF} (hX : XOk C X) (k : Nat) : TblS Try.prog C X (hand_told.T k) := by
  refine tblOf_sound ?_
  intro e he
  rcases List.mem_cons.1 he with rfl | he
  · exact wr_told (hand_reply.told hX k)
  rcases List.mem_cons.1 he with rfl | he
  · exact wr_told (hand_bytes.told hX k)
  rcases List.mem_cons.1 he with rfl | he
  · exact wr_told (slices_Concat_byte_byte.told hX k)
  exact absurd he List.not_mem_nil
set_option maxRecDepth 100000 in
theorem hand_told.l0_pass {C : FuncId → Bool} {X : CallF} (hX : XOk C X) (k n : Nat) : PassS Try.prog C X 34 (.loop hand_told.c122) (lrun [(12, .sl), (13, (.int .i64)), (5, .sl), (14, (.int .i64))] none [(5, .sl)] 0 (fun a h => hand_told.l0 k n (a.1) (a.2.1) (a.2.2.1) (a.2.2.2) h)) :=
  loop_pass (ins := [(12, .sl), (13, (.int .i64)), (5, .sl), (14, (.int .i64))]) (rets := none) (outs := [(5, .sl)]) (id := 0) (tbl := hand_told.T k) (an := hand_told.an k) (pb := 244) (hand_told.TS hX k) (fun n => (fun a h => hand_told.l0 k n (a.1) (a.2.1) (a.2.2.1) (a.2.2.2) h)) (fun a h => rfl) (fun n a h => by kernel_rfl)
    (by
      have e : need (hand_told.an k) hand_told.c122 244 = [] := by kernel_rfl
      rw [e]; intro q hq; cases hq) n
set_option maxRecDepth 100000 in
theorem hand_told.eq (k : Nat) (a : RT [.sl, .sl]) (h : H) : (fun a h => hand_told.f k (a.1) (a.2) h) a h = kfun Try.prog (hand_told.T k) (hand_told.an k) (RT [.sl] × H) Try.f33 (encL [.sl, .sl] a) h (fun vs h' => (decL [.sl] vs).bind fun x => some (x, h')) := by kernel_rfl
set_option maxRecDepth 100000 in
theorem hand_told.told {C : FuncId → Bool} {X : CallF} (hX : XOk C X) (k : Nat) : Den.Told Try.prog C X 33 [.sl, .sl] [.sl] (fun a h => hand_told.f k (a.1) (a.2) h) :=
  told_of fun a h q e => fn_of (c := hand_told.body) (hand_told.TS hX k) Try.func33 (by kernel_rfl) (hX.no 33 _ h (by decide))
    (by
      have e : need (hand_told.an k) hand_told.body 1 = [(Code.loop hand_told.c122, lrun [(12, .sl), (13, (.int .i64)), (5, .sl), (14, (.int .i64))] none [(5, .sl)] 0 (fun a h => hand_told.l0 k k (a.1) (a.2.1) (a.2.2.1) (a.2.2.2) h))] := by kernel_rfl
      rw [e]; intro q hq
      rcases List.mem_cons.1 hq with rfl | hq
      · exact hand_told.l0_pass hX k k
      cases hq)
    ((hand_told.eq k a h).symm.trans e)
/-! ### slices.Chunk[[]byte,byte] -/
noncomputable def slices_Chunk_byte_byte.f (k : Nat) (a0 : Sl) (a1 : Int) (h : H) : Option ((Option Addr × Option Addr) × H) :=
  (asI .i64 (ldc (newR (newR h 25 1 [(Value.slice a0.a a0.n a0.c)]) 3 1 [(Value.int .i64 a1)]) (some ⟨(newR h 25 1 [(Value.slice a0.a a0.n a0.c)]).next, 0, none⟩))).bind fun n1 =>
    (cond (decide (n1 < (1 : Int)))
      (none)
      (some ((), (newR (newR h 25 1 [(Value.slice a0.a a0.n a0.c)]) 3 1 [(Value.int .i64 a1)]))) : Option ((Unit) × H)).bind fun j2 =>
    some (((some ⟨h.next, 0, none⟩), (some ⟨(newR h 25 1 [(Value.slice a0.a a0.n a0.c)]).next, 0, none⟩)), j2.2)
noncomputable def slices_Chunk_byte_byte.T (k : Nat) : Tbl := tblOf []
noncomputable def slices_Chunk_byte_byte.an (k : Nat) (p : Nat) : Option Ann := cond (Nat.beq p 13) (some (.join [2, 3] none []))
  (none)
noncomputable def slices_Chunk_byte_byte.body : Code := (Try.f43.body).getD .skip
set_option maxRecDepth 100000 in
theorem slices_Chunk_byte_byte.TS {C : FuncId → Bool} {X : CallF} (hX : XOk C X) (k : Nat) : TblS Try.prog C X (slices_Chunk_byte_byte.T k) := by
  refine tblOf_sound ?_
  intro e he
  exact absurd he List.not_mem_nil
set_option maxRecDepth 100000 in
theorem slices_Chunk_byte_byte.eq (k : Nat) (a : RT [.sl, (.int .i64)]) (h : H) : (fun a h => slices_Chunk_byte_byte.f k (a.1) (a.2) h) a h = kfun Try.prog (slices_Chunk_byte_byte.T k) (slices_Chunk_byte_byte.an k) (RT [(.fn 45 2)] × H) Try.f43 (encL [.sl, (.int .i64)] a) h (fun vs h' => (decL [(.fn 45 2)] vs).bind fun x => some (x, h')) := by kernel_rfl
set_option maxRecDepth 100000 in
theorem slices_Chunk_byte_byte.told {C : FuncId → Bool} {X : CallF} (hX : XOk C X) (k : Nat) : Den.Told Try.prog C X 43 [.sl, (.int .i64)] [(.fn 45 2)] (fun a h => slices_Chunk_byte_byte.f k (a.1) (a.2) h) :=
  told_of fun a h q e => fn_of (c := slices_Chunk_byte_byte.body) (slices_Chunk_byte_byte.TS hX k) Try.func43 (by kernel_rfl) (hX.no 43 _ h (by decide))
    (by
      have e : need (slices_Chunk_byte_byte.an k) slices_Chunk_byte_byte.body 1 = [] := by kernel_rfl
      rw [e]; intro q hq; cases hq)
    ((slices_Chunk_byte_byte.eq k a h).symm.trans e)
/-! ### corbel/hand.asked -/
noncomputable def hand_asked.l0 (k : Nat) (n : Nat) : (Option Addr) → ChI → Nat → Nat → Nat → H → H → Option H :=
  Nat.rec (motive := fun _ => (Option Addr) → ChI → Nat → Nat → Nat → H → H → Option H) (fun _ _ _ _ _ _ _ => none) (fun _ ih x10 c b o i w h => cond (Nat.ble c.len (i * c.n)) (some h) ((asS (ldc h x10)).bind fun s11 =>
    (hand_number.f k (⟨(some ⟨b, o + i * c.n, none⟩), (Nat.min c.n (c.len - i * c.n)), (Nat.min c.n (c.len - i * c.n))⟩ : Sl) h).bind fun q12 =>
    (asS2 (apv 3 1 8 (Value.slice s11.a s11.n s11.c) (Value.slice (some ⟨q12.2.next, 0, none⟩) 1 1) (newR q12.2 3 1 [(Value.int .i64 q12.1)]))).bind fun q13 =>
    (stv 1 q13.2 x10 [(Value.slice q13.1.a q13.1.n q13.1.c)]).bind fun q14 =>
    cond (same1 h q12.2 (some (Value.pointer x10)) && (true)) (cond (sameVer w q14.2 c.bs && sameVer w q14.2 c.bn) (ih x10 c b o (i + 1) w q14.2) none) none)) n
theorem hand_asked.l0_zero (k : Nat) (x10 : Option Addr) (c : ChI) (b : Nat) (o : Nat) (i : Nat) (w : H) (h : H) : hand_asked.l0 k 0 x10 c b o i w h = none := rfl
theorem hand_asked.l0_succ (k n : Nat) (x10 : Option Addr) (c : ChI) (b : Nat) (o : Nat) (i : Nat) (w : H) (h : H) : hand_asked.l0 k (n + 1) x10 c b o i w h = (cond (Nat.ble c.len (i * c.n)) (some h) ((asS (ldc h x10)).bind fun s11 =>
    (hand_number.f k (⟨(some ⟨b, o + i * c.n, none⟩), (Nat.min c.n (c.len - i * c.n)), (Nat.min c.n (c.len - i * c.n))⟩ : Sl) h).bind fun q12 =>
    (asS2 (apv 3 1 8 (Value.slice s11.a s11.n s11.c) (Value.slice (some ⟨q12.2.next, 0, none⟩) 1 1) (newR q12.2 3 1 [(Value.int .i64 q12.1)]))).bind fun q13 =>
    (stv 1 q13.2 x10 [(Value.slice q13.1.a q13.1.n q13.1.c)]).bind fun q14 =>
    cond (same1 h q12.2 (some (Value.pointer x10)) && (true)) (cond (sameVer w q14.2 c.bs && sameVer w q14.2 c.bn) (hand_asked.l0 k n x10 c b o (i + 1) w q14.2) none) none)) := rfl
noncomputable def hand_asked.f (k : Nat) (a0 : Sl) (h : H) : Option ((ByteArray × Sl × Bool) × H) :=
  cond (decide ((Int.ofNat a0.n) < (6 : Int)))
      (some (((⟨#[]⟩ : ByteArray), (⟨none, 0, 0⟩ : Sl), false), h))
      ((asS (subs 1 (Value.slice a0.a a0.n a0.c) none (some (4 : Int)))).bind fun s1 =>
    (hand_number.f k s1 h).bind fun q2 =>
    cond (decide (q2.1 > (wrapA .i64 ((Int.ofNat a0.n) - (6 : Int)))))
      (some (((⟨#[]⟩ : ByteArray), (⟨none, 0, 0⟩ : Sl), false), q2.2))
      ((asS (subs 1 (Value.slice a0.a a0.n a0.c) (some (4 : Int)) (some (wrapA .i64 ((4 : Int) + q2.1))))).bind fun s3 =>
    (asT (txt q2.2 (Value.slice s3.a s3.n s3.c))).bind fun s4 =>
    (asS (subs 1 (Value.slice a0.a a0.n a0.c) (some (wrapA .i64 ((4 : Int) + q2.1))) none)).bind fun s5 =>
    (asS (subs 1 (Value.slice s5.a s5.n s5.c) none (some (2 : Int)))).bind fun s6 =>
    (hand_number.f k s6 q2.2).bind fun q7 =>
    cond ((Int.ofNat s5.n) != (wrapA .i64 ((2 : Int) + (wrapA .i64 ((2 : Int) * q7.1)))))
      (some (((⟨#[]⟩ : ByteArray), (⟨none, 0, 0⟩ : Sl), false), q7.2))
      ((asS (subs 1 (Value.slice s5.a s5.n s5.c) (some (2 : Int)) none)).bind fun s8 =>
    (slices_Chunk_byte_byte.f k s8 (2 : Int) (newR q7.2 70 1 [(Value.slice none 0 0)])).bind fun q9 =>
    (chInfo q9.2 (q9.1.1, q9.1.2)).bind fun c16 =>
    (chGo (fun b0 o0 w0 h0 => hand_asked.l0 k k (some ⟨q7.2.next, 0, none⟩) c16 b0 o0 0 w0 h0) c16 q9.2).bind fun h15 =>
    (asS (ldc h15 (some ⟨q7.2.next, 0, none⟩))).bind fun s17 =>
    some ((s4, s17, true), h15))))
noncomputable def hand_asked.T (k : Nat) : Tbl := tblOf [⟨29, anyArgs, wr [.sl] [(.int .i64)] (fun a h => hand_number.f k a h)⟩,
  ⟨43, anyArgs, wr [.sl, (.int .i64)] [(.fn 45 2)] (fun a h => slices_Chunk_byte_byte.f k (a.1) (a.2) h)⟩]
noncomputable def hand_asked.an (k : Nat) (p : Nat) : Option Ann := cond (Nat.beq p 4090) (some (.pass [6, 9] (chRun 45 (.tmp 42) [(9, .ptr)] (fun a c b o w h => (fun a c b o i w h => hand_asked.l0 k k a c b o i w h) a c b o 0 w h))))
  (none)
noncomputable def hand_asked.body : Code := (Try.f39.body).getD .skip
noncomputable def hand_asked.c8180 : Code := cat hand_asked.body [1, 1, 1, 1, 1, 1, 1, 1, 0, 1, 0, 0]
noncomputable def hand_asked.c8181 : Code := cat hand_asked.body [1, 1, 1, 1, 1, 1, 1, 1, 0, 1, 0, 1]
set_option maxRecDepth 100000 in
theorem hand_asked.TS {C : FuncId → Bool} {X : CallF} (hX : XOk C X) (k : Nat) : TblS Try.prog C X (hand_asked.T k) := by
  refine tblOf_sound ?_
  intro e he
  rcases List.mem_cons.1 he with rfl | he
  · exact wr_told (hand_number.told hX k)
  rcases List.mem_cons.1 he with rfl | he
  · exact wr_told (slices_Chunk_byte_byte.told hX k)
  exact absurd he List.not_mem_nil
set_option maxRecDepth 100000 in
theorem hand_asked.l0_pass {C : FuncId → Bool} {X : CallF} (hX : XOk C X) (k n : Nat) : PassS Try.prog C X 51 (Code.rangeFunc (.tmp 42) #[43] hand_asked.c8180 hand_asked.c8181) (chRun 45 (.tmp 42) [(9, .ptr)] (fun a c b o w h => (fun a c b o i w h => hand_asked.l0 k n a c b o i w h) a c b o 0 w h)) :=
  chunk_pass (ins := [(9, .ptr)]) (ck := 45) (tbl := hand_asked.T k) (an := hand_asked.an k) (pa := 8180) (pb := 8181) (hand_asked.TS hX k) (hX.chunk 45 rfl) (by kernel_rfl) rfl (fun n => (fun a c b o i w h => hand_asked.l0 k n a c b o i w h)) (fun a c b o i w h => rfl) (fun n a c b o i w h => by kernel_rfl)
    (by
      have e : need (hand_asked.an k) hand_asked.c8180 8180 = [] := by kernel_rfl
      rw [e]; intro q hq; cases hq)
    (by
      have e : need (hand_asked.an k) hand_asked.c8181 8181 = [] := by kernel_rfl
      rw [e]; intro q hq; cases hq) n
set_option maxRecDepth 100000 in
theorem hand_asked.eq (k : Nat) (a : RT [.sl]) (h : H) : (fun a h => hand_asked.f k a h) a h = kfun Try.prog (hand_asked.T k) (hand_asked.an k) (RT [.str, .sl, .bool] × H) Try.f39 (encL [.sl] a) h (fun vs h' => (decL [.str, .sl, .bool] vs).bind fun x => some (x, h')) := by kernel_rfl
set_option maxRecDepth 100000 in
theorem hand_asked.told {C : FuncId → Bool} {X : CallF} (hX : XOk C X) (k : Nat) : Den.Told Try.prog C X 39 [.sl] [.str, .sl, .bool] (fun a h => hand_asked.f k a h) :=
  told_of fun a h q e => fn_of (c := hand_asked.body) (hand_asked.TS hX k) Try.func39 (by kernel_rfl) (hX.no 39 _ h (by decide))
    (by
      have e : need (hand_asked.an k) hand_asked.body 1 = [((Code.rangeFunc (.tmp 42) #[43] hand_asked.c8180 hand_asked.c8181), (chRun 45 (.tmp 42) [(9, .ptr)] (fun a c b o w h => (fun a c b o i w h => hand_asked.l0 k k a c b o i w h) a c b o 0 w h)))] := by kernel_rfl
      rw [e]; intro q hq
      rcases List.mem_cons.1 hq with rfl | hq
      · exact hand_asked.l0_pass hX k k
      cases hq)
    ((hand_asked.eq k a h).symm.trans e)
/-! ### slices.Index[[]int,int] -/
noncomputable def slices_Index_int_int.l0 (k : Nat) (n : Nat) : Sl → Int → Int → Int → H → Option (((Int) ⊕ (Unit)) × H) :=
  Nat.rec (motive := fun _ => Sl → Int → Int → Int → H → Option (((Int) ⊕ (Unit)) × H)) (fun _ _ _ _ _ => none) (fun _ ih x1 x2 x3 x4 h5 => cond (decide (x4 < x3))
      ((asP (ixs 1 x1.a x1.n x4)).bind fun p6 =>
    (asI .i64 (ldc h5 p6)).bind fun n7 =>
    cond (x2 == n7)
      (some (Sum.inl x4, h5))
      (ih x1 x2 x3 (wrapA .i64 (x4 + (1 : Int))) h5))
      (some (Sum.inr (), h5))) n
theorem slices_Index_int_int.l0_zero (k : Nat) (x1 : Sl) (x2 : Int) (x3 : Int) (x4 : Int) (h5 : H) : slices_Index_int_int.l0 k 0 x1 x2 x3 x4 h5 = none := rfl
theorem slices_Index_int_int.l0_succ (k n : Nat) (x1 : Sl) (x2 : Int) (x3 : Int) (x4 : Int) (h5 : H) : slices_Index_int_int.l0 k (n + 1) x1 x2 x3 x4 h5 = (cond (decide (x4 < x3))
      ((asP (ixs 1 x1.a x1.n x4)).bind fun p6 =>
    (asI .i64 (ldc h5 p6)).bind fun n7 =>
    cond (x2 == n7)
      (some (Sum.inl x4, h5))
      (slices_Index_int_int.l0 k n x1 x2 x3 (wrapA .i64 (x4 + (1 : Int))) h5))
      (some (Sum.inr (), h5))) := rfl
noncomputable def slices_Index_int_int.f (k : Nat) (a0 : Sl) (a1 : Int) (h : H) : Option ((Int) × H) :=
  (slices_Index_int_int.l0 k k a0 a1 (Int.ofNat a0.n) (0 : Int) h).bind fun w8 =>
    match w8.1 with
    | .inl r9 => some (r9, w8.2)
    | .inr o10 => some ((-1 : Int), w8.2)
noncomputable def slices_Index_int_int.T (k : Nat) : Tbl := tblOf []
noncomputable def slices_Index_int_int.an (k : Nat) (p : Nat) : Option Ann := cond (Nat.beq p 26) (some (.pass [] (lrun [(0, .sl), (1, (.int .i64)), (7, (.int .i64)), (8, (.int .i64))] (some [(4, (.int .i64))]) [] 0 (fun a h => slices_Index_int_int.l0 k k (a.1) (a.2.1) (a.2.2.1) (a.2.2.2) h))))
  (none)
noncomputable def slices_Index_int_int.body : Code := (Try.f44.body).getD .skip
noncomputable def slices_Index_int_int.c26 : Code := cat slices_Index_int_int.body [1, 0, 1, 0, 0]
set_option maxRecDepth 100000 in
theorem slices_Index_int_int.TS {C : FuncId → Bool} {X : CallF} (hX : XOk C X) (k : Nat) : TblS Try.prog C X (slices_Index_int_int.T k) := by
  refine tblOf_sound ?_
  intro e he
  exact absurd he List.not_mem_nil
set_option maxRecDepth 100000 in
theorem slices_Index_int_int.l0_pass {C : FuncId → Bool} {X : CallF} (hX : XOk C X) (k n : Nat) : PassS Try.prog C X 19 (.loop slices_Index_int_int.c26) (lrun [(0, .sl), (1, (.int .i64)), (7, (.int .i64)), (8, (.int .i64))] (some [(4, (.int .i64))]) [] 0 (fun a h => slices_Index_int_int.l0 k n (a.1) (a.2.1) (a.2.2.1) (a.2.2.2) h)) :=
  loop_pass (ins := [(0, .sl), (1, (.int .i64)), (7, (.int .i64)), (8, (.int .i64))]) (rets := (some [(4, (.int .i64))])) (outs := []) (id := 0) (tbl := slices_Index_int_int.T k) (an := slices_Index_int_int.an k) (pb := 52) (slices_Index_int_int.TS hX k) (fun n => (fun a h => slices_Index_int_int.l0 k n (a.1) (a.2.1) (a.2.2.1) (a.2.2.2) h)) (fun a h => rfl) (fun n a h => by kernel_rfl)
    (by
      have e : need (slices_Index_int_int.an k) slices_Index_int_int.c26 52 = [] := by kernel_rfl
      rw [e]; intro q hq; cases hq) n
set_option maxRecDepth 100000 in
theorem slices_Index_int_int.eq (k : Nat) (a : RT [.sl, (.int .i64)]) (h : H) : (fun a h => slices_Index_int_int.f k (a.1) (a.2) h) a h = kfun Try.prog (slices_Index_int_int.T k) (slices_Index_int_int.an k) (RT [(.int .i64)] × H) Try.f44 (encL [.sl, (.int .i64)] a) h (fun vs h' => (decL [(.int .i64)] vs).bind fun x => some (x, h')) := by kernel_rfl
set_option maxRecDepth 100000 in
theorem slices_Index_int_int.told {C : FuncId → Bool} {X : CallF} (hX : XOk C X) (k : Nat) : Den.Told Try.prog C X 44 [.sl, (.int .i64)] [(.int .i64)] (fun a h => slices_Index_int_int.f k (a.1) (a.2) h) :=
  told_of fun a h q e => fn_of (c := slices_Index_int_int.body) (slices_Index_int_int.TS hX k) Try.func44 (by kernel_rfl) (hX.no 44 _ h (by decide))
    (by
      have e : need (slices_Index_int_int.an k) slices_Index_int_int.body 1 = [(Code.loop slices_Index_int_int.c26, lrun [(0, .sl), (1, (.int .i64)), (7, (.int .i64)), (8, (.int .i64))] (some [(4, (.int .i64))]) [] 0 (fun a h => slices_Index_int_int.l0 k k (a.1) (a.2.1) (a.2.2.1) (a.2.2.2) h))] := by kernel_rfl
      rw [e]; intro q hq
      rcases List.mem_cons.1 hq with rfl | hq
      · exact slices_Index_int_int.l0_pass hX k k
      cases hq)
    ((slices_Index_int_int.eq k a h).symm.trans e)
/-! ### slices.Contains[[]int,int] -/
noncomputable def slices_Contains_int_int.f (k : Nat) (a0 : Sl) (a1 : Int) (h : H) : Option ((Bool) × H) :=
  (slices_Index_int_int.f k a0 a1 h).bind fun q1 =>
    some (decide (q1.1 ≥ (0 : Int)), q1.2)
noncomputable def slices_Contains_int_int.T (k : Nat) : Tbl := tblOf [⟨44, anyArgs, wr [.sl, (.int .i64)] [(.int .i64)] (fun a h => slices_Index_int_int.f k (a.1) (a.2) h)⟩]
noncomputable def slices_Contains_int_int.an (k : Nat) (p : Nat) : Option Ann := none
noncomputable def slices_Contains_int_int.body : Code := (Try.f40.body).getD .skip
set_option maxRecDepth 100000 in
theorem slices_Contains_int_int.TS {C : FuncId → Bool} {X : CallF} (hX : XOk C X) (k : Nat) : TblS Try.prog C X (slices_Contains_int_int.T k) := by
  refine tblOf_sound ?_
  intro e he
  rcases List.mem_cons.1 he with rfl | he
  · exact wr_told (slices_Index_int_int.told hX k)
  exact absurd he List.not_mem_nil
set_option maxRecDepth 100000 in
theorem slices_Contains_int_int.eq (k : Nat) (a : RT [.sl, (.int .i64)]) (h : H) : (fun a h => slices_Contains_int_int.f k (a.1) (a.2) h) a h = kfun Try.prog (slices_Contains_int_int.T k) (slices_Contains_int_int.an k) (RT [.bool] × H) Try.f40 (encL [.sl, (.int .i64)] a) h (fun vs h' => (decL [.bool] vs).bind fun x => some (x, h')) := by kernel_rfl
set_option maxRecDepth 100000 in
theorem slices_Contains_int_int.told {C : FuncId → Bool} {X : CallF} (hX : XOk C X) (k : Nat) : Den.Told Try.prog C X 40 [.sl, (.int .i64)] [.bool] (fun a h => slices_Contains_int_int.f k (a.1) (a.2) h) :=
  told_of fun a h q e => fn_of (c := slices_Contains_int_int.body) (slices_Contains_int_int.TS hX k) Try.func40 (by kernel_rfl) (hX.no 40 _ h (by decide))
    (by
      have e : need (slices_Contains_int_int.an k) slices_Contains_int_int.body 1 = [] := by kernel_rfl
      rw [e]; intro q hq; cases hq)
    ((slices_Contains_int_int.eq k a h).symm.trans e)
/-! ### (*corbel/hand.Hand).inform -/
noncomputable def hand_Hand_inform.f (k : Nat) (a0 : Option Addr) (a1 : Int) (a2 : Sl) (a3 : Sl) (h : H) : Option ((Sl) × H) :=
  (hand_asked.f k a3 h).bind fun q1 =>
    cond (!q1.1.2.2)
      ((hand_reply.f k a1 (2147483651 : Int) (⟨none, 0, 0⟩ : Sl) q1.2).bind fun q2 =>
    some (q2.1, q2.2))
      ((hand_find.f k a2 q1.1.1 q1.2).bind fun q3 =>
    (stv 3 (newR q3.2 35 3 [(Value.string (⟨#[]⟩ : ByteArray)), (Value.int .i64 (0 : Int)), (Value.bool false)]) (some ⟨q3.2.next, 0, none⟩) [(Value.string q3.1.1.1), (Value.int .i64 q3.1.1.2.1), (Value.bool q3.1.1.2.2)]).bind fun q4 =>
    cond (!q3.1.2)
      ((hand_reply.f k a1 (2147483654 : Int) (⟨none, 0, 0⟩ : Sl) q4.2).bind fun q5 =>
    some (q5.1, q5.2))
      ((hand_bytes.f k (0 : Int) (2 : Int) q4.2).bind fun q6 =>
    (asSt [.str, (.int .i64), .bool] (lda 3 q6.2 (some ⟨q3.2.next, 0, none⟩))).bind fun s7 =>
    (hand_sized.f k (s7.1, s7.2.1, s7.2.2) q6.2).bind fun q8 =>
    (slices_Concat_byte_byte.f k (⟨(some ⟨q8.2.next, 0, none⟩), 2, 2⟩ : Sl) (newR q8.2 25 1 [(Value.slice q6.1.a q6.1.n q6.1.c), (Value.slice q8.1.a q8.1.n q8.1.c)])).bind fun q9 =>
    (hand_reply.f k a1 (3 : Int) q9.1 q9.2).bind fun q10 =>
    cond (same1 q4.2 q6.2 (some (Value.pointer (some ⟨q3.2.next, 0, none⟩))) && (true)) ((slices_Contains_int_int.f k q1.1.2.1 (3 : Int) q10.2).bind fun q11 =>
    (cond q11.1
      ((hand_bytes.f k (3 : Int) (2 : Int) q11.2).bind fun q12 =>
    (hand_bytes.f k (16 : Int) (4 : Int) q12.2).bind fun q13 =>
    (hand_bytes.f k (128 : Int) (4 : Int) q13.2).bind fun q14 =>
    (hand_bytes.f k (32768 : Int) (4 : Int) q14.2).bind fun q15 =>
    (slices_Concat_byte_byte.f k (⟨(some ⟨q15.2.next, 0, none⟩), 4, 4⟩ : Sl) (newR q15.2 25 1 [(Value.slice q12.1.a q12.1.n q12.1.c), (Value.slice q13.1.a q13.1.n q13.1.c), (Value.slice q14.1.a q14.1.n q14.1.c), (Value.slice q15.1.a q15.1.n q15.1.c)])).bind fun q16 =>
    (hand_reply.f k a1 (3 : Int) q16.1 q16.2).bind fun q17 =>
    (asS2 (apv 5 1 1 (Value.slice q10.1.a q10.1.n q10.1.c) (Value.slice q17.1.a q17.1.n q17.1.c) q17.2)).bind fun q18 =>
    some (q18.1, q18.2))
      (some (q10.1, q11.2)) : Option ((Sl) × H)).bind fun j19 =>
    (cond (a1 == (7 : Int))
      ((hand_Hand_choose.f k a0 q1.1.1 j19.2).bind fun q20 =>
    some ((), q20.2))
      (some ((), j19.2)) : Option ((Unit) × H)).bind fun j21 =>
    (hand_reply.f k a1 (1 : Int) (⟨none, 0, 0⟩ : Sl) j21.2).bind fun q22 =>
    (asS2 (apv 5 1 1 (Value.slice j19.1.a j19.1.n j19.1.c) (Value.slice q22.1.a q22.1.n q22.1.c) q22.2)).bind fun q23 =>
    some (q23.1, q23.2)) none))
noncomputable def hand_Hand_inform.T (k : Nat) : Tbl := tblOf [⟨39, anyArgs, wr [.sl] [.str, .sl, .bool] (fun a h => hand_asked.f k a h)⟩,
  ⟨32, anyArgs, wr [(.int .i64), (.int .i64), .sl] [.sl] (fun a h => hand_reply.f k (a.1) (a.2.1) (a.2.2) h)⟩,
  ⟨35, anyArgs, wr [.sl, .str] [(.st [.str, (.int .i64), .bool]), .bool] (fun a h => hand_find.f k (a.1) (a.2) h)⟩,
  ⟨38, anyArgs, wr [(.int .i64), (.int .i64)] [.sl] (fun a h => hand_bytes.f k (a.1) (a.2) h)⟩,
  ⟨37, anyArgs, wr [(.st [.str, (.int .i64), .bool])] [.sl] (fun a h => hand_sized.f k a h)⟩,
  ⟨23, anyArgs, wr [.sl] [.sl] (fun a h => slices_Concat_byte_byte.f k a h)⟩,
  ⟨40, anyArgs, wr [.sl, (.int .i64)] [.bool] (fun a h => slices_Contains_int_int.f k (a.1) (a.2) h)⟩,
  ⟨36, anyArgs, wr [.ptr, .str] [] (fun a h => hand_Hand_choose.f k (a.1) (a.2) h)⟩]
noncomputable def hand_Hand_inform.an (k : Nat) (p : Nat) : Option Ann := cond (Nat.beq p 1021) (some (.join [1, 14] none []))
  (cond (Nat.beq p 509) (some (.join [0, 1, 9] none [(14, .sl)]))
  (none))
noncomputable def hand_Hand_inform.body : Code := (Try.f34.body).getD .skip
set_option maxRecDepth 100000 in
theorem hand_Hand_inform.TS {C : FuncId → Bool} {X : CallF} (hX : XOk C X) (k : Nat) : TblS Try.prog C X (hand_Hand_inform.T k) := by
  refine tblOf_sound ?_
  intro e he
  rcases List.mem_cons.1 he with rfl | he
  · exact wr_told (hand_asked.told hX k)
  rcases List.mem_cons.1 he with rfl | he
  · exact wr_told (hand_reply.told hX k)
  rcases List.mem_cons.1 he with rfl | he
  · exact wr_told (hand_find.told hX k)
  rcases List.mem_cons.1 he with rfl | he
  · exact wr_told (hand_bytes.told hX k)
  rcases List.mem_cons.1 he with rfl | he
  · exact wr_told (hand_sized.told hX k)
  rcases List.mem_cons.1 he with rfl | he
  · exact wr_told (slices_Concat_byte_byte.told hX k)
  rcases List.mem_cons.1 he with rfl | he
  · exact wr_told (slices_Contains_int_int.told hX k)
  rcases List.mem_cons.1 he with rfl | he
  · exact wr_told (hand_Hand_choose.told hX k)
  exact absurd he List.not_mem_nil
set_option maxRecDepth 100000 in
theorem hand_Hand_inform.eq (k : Nat) (a : RT [.ptr, (.int .i64), .sl, .sl]) (h : H) : (fun a h => hand_Hand_inform.f k (a.1) (a.2.1) (a.2.2.1) (a.2.2.2) h) a h = kfun Try.prog (hand_Hand_inform.T k) (hand_Hand_inform.an k) (RT [.sl] × H) Try.f34 (encL [.ptr, (.int .i64), .sl, .sl] a) h (fun vs h' => (decL [.sl] vs).bind fun x => some (x, h')) := by kernel_rfl
set_option maxRecDepth 100000 in
theorem hand_Hand_inform.told {C : FuncId → Bool} {X : CallF} (hX : XOk C X) (k : Nat) : Den.Told Try.prog C X 34 [.ptr, (.int .i64), .sl, .sl] [.sl] (fun a h => hand_Hand_inform.f k (a.1) (a.2.1) (a.2.2.1) (a.2.2.2) h) :=
  told_of fun a h q e => fn_of (c := hand_Hand_inform.body) (hand_Hand_inform.TS hX k) Try.func34 (by kernel_rfl) (hX.no 34 _ h (by decide))
    (by
      have e : need (hand_Hand_inform.an k) hand_Hand_inform.body 1 = [] := by kernel_rfl
      rw [e]; intro q hq; cases hq)
    ((hand_Hand_inform.eq k a h).symm.trans e)
/-! ### (*corbel/hand.Hand).option -/
noncomputable def hand_Hand_option.f (k : Nat) (a0 : Option Addr) (a1 : Int) (a2 : Sl) (a3 : Sl) (h : H) : Option ((Sl) × H) :=
  cond (a1 == (1 : Int))
      ((asT (txt h (Value.slice a2.a a2.n a2.c))).bind fun s1 =>
    (hand_Hand_named.f k a0 a3 s1 h).bind fun q2 =>
    some (q2.1, q2.2))
      (cond (a1 == (2 : Int))
      ((asP (nilA (Value.pointer a0))).bind fun p3 =>
    (asP (fadd 5 p3)).bind fun p4 =>
    (stv 1 h p4 [(Value.bool true)]).bind fun q5 =>
    (hand_reply.f k (2 : Int) (1 : Int) (⟨none, 0, 0⟩ : Sl) q5.2).bind fun q6 =>
    some (q6.1, q6.2))
      (cond (a1 == (3 : Int))
      ((hand_told.f k a3 a2 h).bind fun q7 =>
    some (q7.1, q7.2))
      ((cond (a1 == (6 : Int))
      (some (a1 == (6 : Int), h))
      (some (a1 == (7 : Int), h)) : Option ((Bool) × H)).bind fun j8 =>
    cond j8.1
      ((hand_Hand_inform.f k a0 a1 a3 a2 j8.2).bind fun q9 =>
    some (q9.1, q9.2))
      ((hand_reply.f k a1 (2147483649 : Int) (⟨none, 0, 0⟩ : Sl) j8.2).bind fun q10 =>
    some (q10.1, q10.2)))))
noncomputable def hand_Hand_option.T (k : Nat) : Tbl := tblOf [⟨31, anyArgs, wr [.ptr, .sl, .str] [.sl] (fun a h => hand_Hand_named.f k (a.1) (a.2.1) (a.2.2) h)⟩,
  ⟨32, anyArgs, wr [(.int .i64), (.int .i64), .sl] [.sl] (fun a h => hand_reply.f k (a.1) (a.2.1) (a.2.2) h)⟩,
  ⟨33, anyArgs, wr [.sl, .sl] [.sl] (fun a h => hand_told.f k (a.1) (a.2) h)⟩,
  ⟨34, anyArgs, wr [.ptr, (.int .i64), .sl, .sl] [.sl] (fun a h => hand_Hand_inform.f k (a.1) (a.2.1) (a.2.2.1) (a.2.2.2) h)⟩]
noncomputable def hand_Hand_option.an (k : Nat) (p : Nat) : Option Ann := cond (Nat.beq p 6909) (some (.join [0, 1, 2, 3] none [(28, .bool)]))
  (none)
noncomputable def hand_Hand_option.body : Code := (Try.f30.body).getD .skip
set_option maxRecDepth 100000 in
theorem hand_Hand_option.TS {C : FuncId → Bool} {X : CallF} (hX : XOk C X) (k : Nat) : TblS Try.prog C X (hand_Hand_option.T k) := by
  refine tblOf_sound ?_
  intro e he
  rcases List.mem_cons.1 he with rfl | he
  · exact wr_told (hand_Hand_named.told hX k)
  rcases List.mem_cons.1 he with rfl | he
  · exact wr_told (hand_reply.told hX k)
  rcases List.mem_cons.1 he with rfl | he
  · exact wr_told (hand_told.told hX k)
  rcases List.mem_cons.1 he with rfl | he
  · exact wr_told (hand_Hand_inform.told hX k)
  exact absurd he List.not_mem_nil
set_option maxRecDepth 100000 in
theorem hand_Hand_option.eq (k : Nat) (a : RT [.ptr, (.int .i64), .sl, .sl]) (h : H) : (fun a h => hand_Hand_option.f k (a.1) (a.2.1) (a.2.2.1) (a.2.2.2) h) a h = kfun Try.prog (hand_Hand_option.T k) (hand_Hand_option.an k) (RT [.sl] × H) Try.f30 (encL [.ptr, (.int .i64), .sl, .sl] a) h (fun vs h' => (decL [.sl] vs).bind fun x => some (x, h')) := by kernel_rfl
set_option maxRecDepth 100000 in
theorem hand_Hand_option.told {C : FuncId → Bool} {X : CallF} (hX : XOk C X) (k : Nat) : Den.Told Try.prog C X 30 [.ptr, (.int .i64), .sl, .sl] [.sl] (fun a h => hand_Hand_option.f k (a.1) (a.2.1) (a.2.2.1) (a.2.2.2) h) :=
  told_of fun a h q e => fn_of (c := hand_Hand_option.body) (hand_Hand_option.TS hX k) Try.func30 (by kernel_rfl) (hX.no 30 _ h (by decide))
    (by
      have e : need (hand_Hand_option.an k) hand_Hand_option.body 1 = [] := by kernel_rfl
      rw [e]; intro q hq; cases hq)
    ((hand_Hand_option.eq k a h).symm.trans e)
/-! ### (*corbel/hand.Hand).step -/
noncomputable def hand_Hand_step.f (k : Nat) (a0 : Option Addr) (a1 : Sl) (h : H) : Option ((Sl × Bool) × H) :=
  (asP (nilA (Value.pointer a0))).bind fun p1 =>
    (asP (fadd 1 p1)).bind fun p2 =>
    (asB (ldc h p2)).bind fun b3 =>
    cond (!b3)
      ((asP (nilA (Value.pointer a0))).bind fun p4 =>
    (asP (fadd 0 p4)).bind fun p5 =>
    (asS (ldc h p5)).bind fun s6 =>
    cond (decide ((Int.ofNat s6.n) < (4 : Int)))
      (some (((⟨none, 0, 0⟩ : Sl), false), h))
      ((hand_Hand_greet.f k a0 h).bind fun q7 =>
    some (((⟨none, 0, 0⟩ : Sl), true), q7.2)))
      ((asP (nilA (Value.pointer a0))).bind fun p8 =>
    (asP (fadd 0 p8)).bind fun p9 =>
    (asS (ldc h p9)).bind fun s10 =>
    cond (decide ((Int.ofNat s10.n) < (16 : Int)))
      (some (((⟨none, 0, 0⟩ : Sl), false), h))
      ((asP (nilA (Value.pointer a0))).bind fun p11 =>
    (asP (fadd 0 p11)).bind fun p12 =>
    (asS (ldc h p12)).bind fun s13 =>
    (asS (subs 1 (Value.slice s13.a s13.n s13.c) (some (12 : Int)) (some (16 : Int)))).bind fun s14 =>
    (hand_number.f k s14 h).bind fun q15 =>
    (asP (nilA (Value.pointer a0))).bind fun p16 =>
    (asP (fadd 0 p16)).bind fun p17 =>
    (asS (ldc q15.2 p17)).bind fun s18 =>
    (asS (subs 1 (Value.slice s18.a s18.n s18.c) none (some (8 : Int)))).bind fun s19 =>
    (asT (txt q15.2 (Value.slice s19.a s19.n s19.c))).bind fun s20 =>
    (cond (!(s20.toList == (⟨#[73, 72, 65, 86, 69, 79, 80, 84]⟩ : ByteArray).toList)) (some (true, q15.2))
      (some (decide (q15.1 > (4096 : Int)), q15.2))).bind fun g21 =>
    cond g21.1
      ((asP (nilA (Value.pointer a0))).bind fun p22 =>
    (asP (fadd 5 p22)).bind fun p23 =>
    (stv 1 g21.2 p23 [(Value.bool true)]).bind fun q24 =>
    some (((⟨none, 0, 0⟩ : Sl), true), q24.2))
      ((asP (nilA (Value.pointer a0))).bind fun p25 =>
    (asP (fadd 0 p25)).bind fun p26 =>
    (asS (ldc g21.2 p26)).bind fun s27 =>
    cond (decide ((Int.ofNat s27.n) < (wrapA .i64 ((16 : Int) + q15.1))))
      (some (((⟨none, 0, 0⟩ : Sl), false), g21.2))
      ((asP (nilA (Value.pointer a0))).bind fun p28 =>
    (asP (fadd 0 p28)).bind fun p29 =>
    (asS (ldc g21.2 p29)).bind fun s30 =>
    (asS (subs 1 (Value.slice s30.a s30.n s30.c) (some (8 : Int)) (some (12 : Int)))).bind fun s31 =>
    (hand_number.f k s31 g21.2).bind fun q32 =>
    (asP (nilA (Value.pointer a0))).bind fun p33 =>
    (asP (fadd 0 p33)).bind fun p34 =>
    (asS (ldc q32.2 p34)).bind fun s35 =>
    (asS (subs 1 (Value.slice s35.a s35.n s35.c) (some (16 : Int)) (some (wrapA .i64 ((16 : Int) + q15.1))))).bind fun s36 =>
    cond (same1 g21.2 q32.2 (some (Value.pointer p34)) && (true)) ((asP (nilA (Value.pointer a0))).bind fun p37 =>
    (asP (fadd 0 p37)).bind fun p38 =>
    (asS (ldc q32.2 p38)).bind fun s39 =>
    (asS (subs 1 (Value.slice s39.a s39.n s39.c) (some (wrapA .i64 ((16 : Int) + q15.1))) none)).bind fun s40 =>
    (asP (nilA (Value.pointer a0))).bind fun p41 =>
    (asP (fadd 0 p41)).bind fun p42 =>
    (stv 1 q32.2 p42 [(Value.slice s40.a s40.n s40.c)]).bind fun q43 =>
    (hand_Hand_option.f k a0 q32.1 s36 a1 q43.2).bind fun q44 =>
    some ((q44.1, true), q44.2)) none))))
noncomputable def hand_Hand_step.T (k : Nat) : Tbl := tblOf [⟨28, anyArgs, wr [.ptr] [] (fun a h => hand_Hand_greet.f k a h)⟩,
  ⟨29, anyArgs, wr [.sl] [(.int .i64)] (fun a h => hand_number.f k a h)⟩,
  ⟨30, anyArgs, wr [.ptr, (.int .i64), .sl, .sl] [.sl] (fun a h => hand_Hand_option.f k (a.1) (a.2.1) (a.2.2.1) (a.2.2.2) h)⟩]
noncomputable def hand_Hand_step.an (k : Nat) (p : Nat) : Option Ann := none
noncomputable def hand_Hand_step.body : Code := (Try.f24.body).getD .skip
set_option maxRecDepth 100000 in
theorem hand_Hand_step.TS {C : FuncId → Bool} {X : CallF} (hX : XOk C X) (k : Nat) : TblS Try.prog C X (hand_Hand_step.T k) := by
  refine tblOf_sound ?_
  intro e he
  rcases List.mem_cons.1 he with rfl | he
  · exact wr_told (hand_Hand_greet.told hX k)
  rcases List.mem_cons.1 he with rfl | he
  · exact wr_told (hand_number.told hX k)
  rcases List.mem_cons.1 he with rfl | he
  · exact wr_told (hand_Hand_option.told hX k)
  exact absurd he List.not_mem_nil
set_option maxRecDepth 100000 in
theorem hand_Hand_step.eq (k : Nat) (a : RT [.ptr, .sl]) (h : H) : (fun a h => hand_Hand_step.f k (a.1) (a.2) h) a h = kfun Try.prog (hand_Hand_step.T k) (hand_Hand_step.an k) (RT [.sl, .bool] × H) Try.f24 (encL [.ptr, .sl] a) h (fun vs h' => (decL [.sl, .bool] vs).bind fun x => some (x, h')) := by kernel_rfl
set_option maxRecDepth 100000 in
theorem hand_Hand_step.told {C : FuncId → Bool} {X : CallF} (hX : XOk C X) (k : Nat) : Den.Told Try.prog C X 24 [.ptr, .sl] [.sl, .bool] (fun a h => hand_Hand_step.f k (a.1) (a.2) h) :=
  told_of fun a h q e => fn_of (c := hand_Hand_step.body) (hand_Hand_step.TS hX k) Try.func24 (by kernel_rfl) (hX.no 24 _ h (by decide))
    (by
      have e : need (hand_Hand_step.an k) hand_Hand_step.body 1 = [] := by kernel_rfl
      rw [e]; intro q hq; cases hq)
    ((hand_Hand_step.eq k a h).symm.trans e)
/-! ### (*corbel/hand.Hand).Feed -/
noncomputable def hand_Hand_Feed.l0 (k : Nat) (n : Nat) : (Option Addr) → Sl → Sl → H → Option (((Sl × Sl) ⊕ (Sl)) × H) :=
  Nat.rec (motive := fun _ => (Option Addr) → Sl → Sl → H → Option (((Sl × Sl) ⊕ (Sl)) × H)) (fun _ _ _ _ => none) (fun _ ih x16 x17 x18 h19 => (asP (nilA (Value.pointer x16))).bind fun p20 =>
    (asP (fadd 5 p20)).bind fun p21 =>
    (asB (ldc h19 p21)).bind fun b22 =>
    (cond (!b22) ((asP (nilA (Value.pointer x16))).bind fun p23 =>
    (asP (fadd 4 p23)).bind fun p24 =>
    (asB (ldc h19 p24)).bind fun b25 =>
    some (!b25, h19))
      (some (false, h19))).bind fun g26 =>
    cond g26.1
      ((hand_Hand_step.f k x16 x17 g26.2).bind fun q27 =>
    cond (!q27.1.2)
      (some (Sum.inl (x18, (⟨none, 0, 0⟩ : Sl)), q27.2))
      ((asS2 (apv 5 1 1 (Value.slice x18.a x18.n x18.c) (Value.slice q27.1.1.a q27.1.1.n q27.1.1.c) q27.2)).bind fun q28 =>
    ih x16 x17 q28.1 q28.2))
      (some (Sum.inr x18, g26.2))) n
theorem hand_Hand_Feed.l0_zero (k : Nat) (x16 : Option Addr) (x17 : Sl) (x18 : Sl) (h19 : H) : hand_Hand_Feed.l0 k 0 x16 x17 x18 h19 = none := rfl
theorem hand_Hand_Feed.l0_succ (k n : Nat) (x16 : Option Addr) (x17 : Sl) (x18 : Sl) (h19 : H) : hand_Hand_Feed.l0 k (n + 1) x16 x17 x18 h19 = ((asP (nilA (Value.pointer x16))).bind fun p20 =>
    (asP (fadd 5 p20)).bind fun p21 =>
    (asB (ldc h19 p21)).bind fun b22 =>
    (cond (!b22) ((asP (nilA (Value.pointer x16))).bind fun p23 =>
    (asP (fadd 4 p23)).bind fun p24 =>
    (asB (ldc h19 p24)).bind fun b25 =>
    some (!b25, h19))
      (some (false, h19))).bind fun g26 =>
    cond g26.1
      ((hand_Hand_step.f k x16 x17 g26.2).bind fun q27 =>
    cond (!q27.1.2)
      (some (Sum.inl (x18, (⟨none, 0, 0⟩ : Sl)), q27.2))
      ((asS2 (apv 5 1 1 (Value.slice x18.a x18.n x18.c) (Value.slice q27.1.1.a q27.1.1.n q27.1.1.c) q27.2)).bind fun q28 =>
    hand_Hand_Feed.l0 k n x16 x17 q28.1 q28.2))
      (some (Sum.inr x18, g26.2))) := rfl
noncomputable def hand_Hand_Feed.f (k : Nat) (a0 : Option Addr) (a1 : Sl) (a2 : Sl) (h : H) : Option ((Sl × Sl) × H) :=
  (asP (nilA (Value.pointer a0))).bind fun p1 =>
    (asP (fadd 5 p1)).bind fun p2 =>
    (asB (ldc h p2)).bind fun b3 =>
    (cond b3 (some (true, h))
      ((asP (nilA (Value.pointer a0))).bind fun p4 =>
    (asP (fadd 4 p4)).bind fun p5 =>
    (asB (ldc h p5)).bind fun b6 =>
    some (b6, h))).bind fun g7 =>
    cond g7.1
      ((slices_Clone_byte_byte.f k a1 g7.2).bind fun q8 =>
    some (((⟨none, 0, 0⟩ : Sl), q8.1), q8.2))
      ((asP (nilA (Value.pointer a0))).bind fun p9 =>
    (asP (fadd 0 p9)).bind fun p10 =>
    (asS (ldc g7.2 p10)).bind fun s11 =>
    (slices_Concat_byte_byte.f k (⟨(some ⟨g7.2.next, 0, none⟩), 2, 2⟩ : Sl) (newR g7.2 25 1 [(Value.slice s11.a s11.n s11.c), (Value.slice a1.a a1.n a1.c)])).bind fun q12 =>
    (asP (nilA (Value.pointer a0))).bind fun p13 =>
    (asP (fadd 0 p13)).bind fun p14 =>
    (stv 1 q12.2 p14 [(Value.slice q12.1.a q12.1.n q12.1.c)]).bind fun q15 =>
    (hand_Hand_Feed.l0 k k a0 a2 (⟨none, 0, 0⟩ : Sl) q15.2).bind fun w29 =>
    match w29.1 with
    | .inl r30 => some ((r30.1, r30.2), w29.2)
    | .inr o31 => (asP (nilA (Value.pointer a0))).bind fun p32 =>
    (asP (fadd 0 p32)).bind fun p33 =>
    (asS (ldc w29.2 p33)).bind fun s34 =>
    (asP (nilA (Value.pointer a0))).bind fun p35 =>
    (asP (fadd 0 p35)).bind fun p36 =>
    (stv 1 w29.2 p36 [(Value.slice none 0 0)]).bind fun q37 =>
    (asP (nilA (Value.pointer a0))).bind fun p38 =>
    (asP (fadd 5 p38)).bind fun p39 =>
    (asB (ldc q37.2 p39)).bind fun b40 =>
    cond b40
      (some ((o31, (⟨none, 0, 0⟩ : Sl)), q37.2))
      ((slices_Clone_byte_byte.f k s34 q37.2).bind fun q41 =>
    some ((o31, q41.1), q41.2)))
noncomputable def hand_Hand_Feed.T (k : Nat) : Tbl := tblOf [⟨22, anyArgs, wr [.sl] [.sl] (fun a h => slices_Clone_byte_byte.f k a h)⟩,
  ⟨23, anyArgs, wr [.sl] [.sl] (fun a h => slices_Concat_byte_byte.f k a h)⟩,
  ⟨24, anyArgs, wr [.ptr, .sl] [.sl, .bool] (fun a h => hand_Hand_step.f k (a.1) (a.2) h)⟩]
noncomputable def hand_Hand_Feed.an (k : Nat) (p : Nat) : Option Ann := cond (Nat.beq p 124) (some (.pass [0] (lrun [(0, .ptr), (2, .sl), (8, .sl)] (some [(6, .sl), (7, .sl)]) [(8, .sl)] 0 (fun a h => hand_Hand_Feed.l0 k k (a.1) (a.2.1) (a.2.2) h))))
  (none)
noncomputable def hand_Hand_Feed.body : Code := (Try.f9.body).getD .skip
noncomputable def hand_Hand_Feed.c124 : Code := cat hand_Hand_Feed.body [1, 1, 1, 1, 0, 0, 0]
set_option maxRecDepth 100000 in
theorem hand_Hand_Feed.TS {C : FuncId → Bool} {X : CallF} (hX : XOk C X) (k : Nat) : TblS Try.prog C X (hand_Hand_Feed.T k) := by
  refine tblOf_sound ?_
  intro e he
  rcases List.mem_cons.1 he with rfl | he
  · exact wr_told (slices_Clone_byte_byte.told hX k)
  rcases List.mem_cons.1 he with rfl | he
  · exact wr_told (slices_Concat_byte_byte.told hX k)
  rcases List.mem_cons.1 he with rfl | he
  · exact wr_told (hand_Hand_step.told hX k)
  exact absurd he List.not_mem_nil
set_option maxRecDepth 100000 in
theorem hand_Hand_Feed.l0_pass {C : FuncId → Bool} {X : CallF} (hX : XOk C X) (k n : Nat) : PassS Try.prog C X 73 (.loop hand_Hand_Feed.c124) (lrun [(0, .ptr), (2, .sl), (8, .sl)] (some [(6, .sl), (7, .sl)]) [(8, .sl)] 0 (fun a h => hand_Hand_Feed.l0 k n (a.1) (a.2.1) (a.2.2) h)) :=
  loop_pass (ins := [(0, .ptr), (2, .sl), (8, .sl)]) (rets := (some [(6, .sl), (7, .sl)])) (outs := [(8, .sl)]) (id := 0) (tbl := hand_Hand_Feed.T k) (an := hand_Hand_Feed.an k) (pb := 248) (hand_Hand_Feed.TS hX k) (fun n => (fun a h => hand_Hand_Feed.l0 k n (a.1) (a.2.1) (a.2.2) h)) (fun a h => rfl) (fun n a h => by kernel_rfl)
    (by
      have e : need (hand_Hand_Feed.an k) hand_Hand_Feed.c124 248 = [] := by kernel_rfl
      rw [e]; intro q hq; cases hq) n
set_option maxRecDepth 100000 in
theorem hand_Hand_Feed.eq (k : Nat) (a : RT [.ptr, .sl, .sl]) (h : H) : (fun a h => hand_Hand_Feed.f k (a.1) (a.2.1) (a.2.2) h) a h = kfun Try.prog (hand_Hand_Feed.T k) (hand_Hand_Feed.an k) (RT [.sl, .sl] × H) Try.f9 (encL [.ptr, .sl, .sl] a) h (fun vs h' => (decL [.sl, .sl] vs).bind fun x => some (x, h')) := by kernel_rfl
set_option maxRecDepth 100000 in
theorem hand_Hand_Feed.told {C : FuncId → Bool} {X : CallF} (hX : XOk C X) (k : Nat) : Den.Told Try.prog C X 9 [.ptr, .sl, .sl] [.sl, .sl] (fun a h => hand_Hand_Feed.f k (a.1) (a.2.1) (a.2.2) h) :=
  told_of fun a h q e => fn_of (c := hand_Hand_Feed.body) (hand_Hand_Feed.TS hX k) Try.func9 (by kernel_rfl) (hX.no 9 _ h (by decide))
    (by
      have e : need (hand_Hand_Feed.an k) hand_Hand_Feed.body 1 = [(Code.loop hand_Hand_Feed.c124, lrun [(0, .ptr), (2, .sl), (8, .sl)] (some [(6, .sl), (7, .sl)]) [(8, .sl)] 0 (fun a h => hand_Hand_Feed.l0 k k (a.1) (a.2.1) (a.2.2) h))] := by kernel_rfl
      rw [e]; intro q hq
      rcases List.mem_cons.1 hq with rfl | hq
      · exact hand_Hand_Feed.l0_pass hX k k
      cases hq)
    ((hand_Hand_Feed.eq k a h).symm.trans e)
/-! ### (*corbel/hand.Hand).Chosen -/
noncomputable def hand_Hand_Chosen.f (k : Nat) (a0 : Option Addr) (h : H) : Option ((ByteArray × Bool) × H) :=
  (asP (nilA (Value.pointer a0))).bind fun p1 =>
    (asP (fadd 3 p1)).bind fun p2 =>
    (asT (ldc h p2)).bind fun s3 =>
    (asP (nilA (Value.pointer a0))).bind fun p4 =>
    (asP (fadd 4 p4)).bind fun p5 =>
    (asB (ldc h p5)).bind fun b6 =>
    some ((s3, b6), h)
noncomputable def hand_Hand_Chosen.T (k : Nat) : Tbl := tblOf []
noncomputable def hand_Hand_Chosen.an (k : Nat) (p : Nat) : Option Ann := none
noncomputable def hand_Hand_Chosen.body : Code := (Try.f12.body).getD .skip
set_option maxRecDepth 100000 in
theorem hand_Hand_Chosen.TS {C : FuncId → Bool} {X : CallF} (hX : XOk C X) (k : Nat) : TblS Try.prog C X (hand_Hand_Chosen.T k) := by
  refine tblOf_sound ?_
  intro e he
  exact absurd he List.not_mem_nil
set_option maxRecDepth 100000 in
theorem hand_Hand_Chosen.eq (k : Nat) (a : RT [.ptr]) (h : H) : (fun a h => hand_Hand_Chosen.f k a h) a h = kfun Try.prog (hand_Hand_Chosen.T k) (hand_Hand_Chosen.an k) (RT [.str, .bool] × H) Try.f12 (encL [.ptr] a) h (fun vs h' => (decL [.str, .bool] vs).bind fun x => some (x, h')) := by kernel_rfl
set_option maxRecDepth 100000 in
theorem hand_Hand_Chosen.told {C : FuncId → Bool} {X : CallF} (hX : XOk C X) (k : Nat) : Den.Told Try.prog C X 12 [.ptr] [.str, .bool] (fun a h => hand_Hand_Chosen.f k a h) :=
  told_of fun a h q e => fn_of (c := hand_Hand_Chosen.body) (hand_Hand_Chosen.TS hX k) Try.func12 (by kernel_rfl) (hX.no 12 _ h (by decide))
    (by
      have e : need (hand_Hand_Chosen.an k) hand_Hand_Chosen.body 1 = [] := by kernel_rfl
      rw [e]; intro q hq; cases hq)
    ((hand_Hand_Chosen.eq k a h).symm.trans e)
/-! ### (*corbel/hand.Hand).Ended -/
noncomputable def hand_Hand_Ended.f (k : Nat) (a0 : Option Addr) (h : H) : Option ((Bool) × H) :=
  (asP (nilA (Value.pointer a0))).bind fun p1 =>
    (asP (fadd 5 p1)).bind fun p2 =>
    (asB (ldc h p2)).bind fun b3 =>
    some (b3, h)
noncomputable def hand_Hand_Ended.T (k : Nat) : Tbl := tblOf []
noncomputable def hand_Hand_Ended.an (k : Nat) (p : Nat) : Option Ann := none
noncomputable def hand_Hand_Ended.body : Code := (Try.f13.body).getD .skip
set_option maxRecDepth 100000 in
theorem hand_Hand_Ended.TS {C : FuncId → Bool} {X : CallF} (hX : XOk C X) (k : Nat) : TblS Try.prog C X (hand_Hand_Ended.T k) := by
  refine tblOf_sound ?_
  intro e he
  exact absurd he List.not_mem_nil
set_option maxRecDepth 100000 in
theorem hand_Hand_Ended.eq (k : Nat) (a : RT [.ptr]) (h : H) : (fun a h => hand_Hand_Ended.f k a h) a h = kfun Try.prog (hand_Hand_Ended.T k) (hand_Hand_Ended.an k) (RT [.bool] × H) Try.f13 (encL [.ptr] a) h (fun vs h' => (decL [.bool] vs).bind fun x => some (x, h')) := by kernel_rfl
set_option maxRecDepth 100000 in
theorem hand_Hand_Ended.told {C : FuncId → Bool} {X : CallF} (hX : XOk C X) (k : Nat) : Den.Told Try.prog C X 13 [.ptr] [.bool] (fun a h => hand_Hand_Ended.f k a h) :=
  told_of fun a h q e => fn_of (c := hand_Hand_Ended.body) (hand_Hand_Ended.TS hX k) Try.func13 (by kernel_rfl) (hX.no 13 _ h (by decide))
    (by
      have e : need (hand_Hand_Ended.an k) hand_Hand_Ended.body 1 = [] := by kernel_rfl
      rw [e]; intro q hq; cases hq)
    ((hand_Hand_Ended.eq k a h).symm.trans e)
/-! ### corbel/corbellaw23.HandChooses -/
noncomputable def corbellaw23_HandChooses.f (k : Nat) (a0 : Int) (a1 : Bool) (a2 : Int) (a3 : Sl) (a4 : Int) (h : H) : Option ((Bool) × H) :=
  (corbelhand_Name.f k a0 h).bind fun q1 =>
    (corbelhand_Pick.f k a4 (5000 : Int) q1.2).bind fun q2 =>
    (hand_New.f k (newR q2.2 35 3 [(Value.string q1.1), (Value.int .i64 q2.1), (Value.bool ((a0.tmod (2 : Int)) == (0 : Int)))])).bind fun q3 =>
    (cond (!true) (some (true, q3.2))
      ((asB (binO1 Try.prog .eql 22 (Value.pointer q3.1) (Value.pointer none))).bind fun b4 =>
    some (b4, q3.2))).bind fun g5 =>
    cond g5.1
      (some (false, g5.2))
      ((corbelhand_Pick.f k a2 (4 : Int) g5.2).bind fun q6 =>
    (corbelref7_Big.f k q6.1 (4 : Int) q6.2).bind fun q7 =>
    (asP (ixs 3 (some ⟨q2.2.next, 0, none⟩) 1 (0 : Int))).bind fun p8 =>
    (asP (fadd 1 p8)).bind fun p9 =>
    (asI .i64 (ldc q7.2 p9)).bind fun n10 =>
    (corbelref7_Big.f k (wrapA .i64 (n10 * (16 : Int))) (8 : Int) q7.2).bind fun q11 =>
    (asP (ixs 3 (some ⟨q2.2.next, 0, none⟩) 1 (0 : Int))).bind fun p12 =>
    (asSt [.str, (.int .i64), .bool] (lda 3 q11.2 p12)).bind fun s13 =>
    (hand_Flags.f k (s13.1, s13.2.1, s13.2.2) q11.2).bind fun q14 =>
    (corbelref7_Big.f k q14.1 (2 : Int) q14.2).bind fun q15 =>
    (asS2 (apv 5 1 1 (Value.slice q11.1.a q11.1.n q11.1.c) (Value.slice q15.1.a q15.1.n q15.1.c) q15.2)).bind fun q16 =>
    cond (same1 q7.2 q11.2 (some (Value.pointer p12)) && (true)) ((cond a1
      ((asP (ixs 3 (some ⟨q2.2.next, 0, none⟩) 1 (0 : Int))).bind fun p17 =>
    (asP (fadd 0 p17)).bind fun p18 =>
    (asT (ldc q16.2 p18)).bind fun s19 =>
    (corbellaw23_option.f k (1 : Int) (⟨(some ⟨q16.2.next, 0, none⟩), s19.data.toList.length, (unkOf 1)⟩ : Sl) (newT q16.2 5 s19)).bind fun q20 =>
    (asS2 (apv 5 1 1 (Value.slice q7.1.a q7.1.n q7.1.c) (Value.slice q20.1.a q20.1.n q20.1.c) q20.2)).bind fun q21 =>
    (asT (txt q21.2 (Value.slice q16.1.a q16.1.n q16.1.c))).bind fun s22 =>
    (cond (decide (q6.1 < (2 : Int)))
      ((asT (txt (newZ q21.2 5 1 [(Value.int .u8 (0 : Int))] 124) (Value.slice (some ⟨q21.2.next, 0, none⟩) 124 124))).bind fun s23 =>
    (asT (strA .add s22 s23)).bind fun s24 =>
    some (s24, (newZ q21.2 5 1 [(Value.int .u8 (0 : Int))] 124)))
      (some (s22, q21.2)) : Option ((ByteArray) × H)).bind fun j25 =>
    some ((q21.1, j25.1), j25.2))
      ((asP (ixs 3 (some ⟨q2.2.next, 0, none⟩) 1 (0 : Int))).bind fun p26 =>
    (asP (fadd 0 p26)).bind fun p27 =>
    (asT (ldc q16.2 p27)).bind fun s28 =>
    (corbelplay_Go.f k s28 q16.2).bind fun q29 =>
    (asS (subs 1 (Value.slice q29.1.a q29.1.n q29.1.c) (some (4 : Int)) none)).bind fun s30 =>
    (asS2 (apv 5 1 1 (Value.slice q7.1.a q7.1.n q7.1.c) (Value.slice s30.a s30.n s30.c) q29.2)).bind fun q31 =>
    (asT (strA .add (⟨#[0, 3, 232, 137, 4, 85, 101, 169, 0, 0, 0, 7, 0, 0, 0]⟩ : ByteArray) (⟨#[3, 0, 0, 0, 12, 0, 0]⟩ : ByteArray))).bind fun s32 =>
    (asT (txt q31.2 (Value.slice q16.1.a q16.1.n q16.1.c))).bind fun s33 =>
    (asT (strA .add s32 s33)).bind fun s34 =>
    (asT (strA .add s34 (⟨#[0, 3, 232, 137, 4, 85, 101, 169, 0, 0, 0, 7, 0, 0, 0]⟩ : ByteArray))).bind fun s35 =>
    (asT (strA .add s35 (⟨#[1, 0, 0, 0, 0]⟩ : ByteArray))).bind fun s36 =>
    some ((q31.1, s36), q31.2)) : Option ((Sl × ByteArray) × H)).bind fun j37 =>
    (asS2 (apv 5 1 1 (Value.slice j37.1.1.a j37.1.1.n j37.1.1.c) (Value.slice a3.a a3.n a3.c) j37.2)).bind fun q38 =>
    (hand_Hand_Feed.f k q3.1 q38.1 (⟨(some ⟨q2.2.next, 0, none⟩), 1, 1⟩ : Sl) q38.2).bind fun q39 =>
    (hand_Hand_Chosen.f k q3.1 q39.2).bind fun q40 =>
    (asT (txt q40.2 (Value.slice q39.1.1.a q39.1.1.n q39.1.1.c))).bind fun s41 =>
    (cond (s41.toList == j37.1.2.toList) ((asT (txt q40.2 (Value.slice q39.1.2.a q39.1.2.n q39.1.2.c))).bind fun s42 =>
    (asT (txt q40.2 (Value.slice a3.a a3.n a3.c))).bind fun s43 =>
    some (s42.toList == s43.toList, q40.2))
      (some (false, q40.2))).bind fun g44 =>
    (cond g44.1 (some (q40.1.2, g44.2))
      (some (false, g44.2))).bind fun g45 =>
    (cond g45.1 ((asP (ixs 3 (some ⟨q2.2.next, 0, none⟩) 1 (0 : Int))).bind fun p46 =>
    (asP (fadd 0 p46)).bind fun p47 =>
    (asT (ldc g45.2 p47)).bind fun s48 =>
    some (q40.1.1.toList == s48.toList, g45.2))
      (some (false, g45.2))).bind fun g49 =>
    (cond g49.1 ((hand_Hand_Ended.f k q3.1 g49.2).bind fun q50 =>
    some (!q50.1, q50.2))
      (some (false, g49.2))).bind fun g51 =>
    some (g51.1, g51.2)) none)
noncomputable def corbellaw23_HandChooses.T (k : Nat) : Tbl := tblOf [⟨15, anyArgs, wr [(.int .i64)] [.str] (fun a h => corbelhand_Name.f k a h)⟩,
  ⟨16, anyArgs, wr [(.int .i64), (.int .i64)] [(.int .i64)] (fun a h => corbelhand_Pick.f k (a.1) (a.2) h)⟩,
  ⟨7, anyArgs, wr [] [.ptr] (fun a h => hand_New.f k h)⟩,
  ⟨8, anyArgs, knownW⟩,
  ⟨17, anyArgs, wr [(.int .i64), (.int .i64)] [.sl] (fun a h => corbelref7_Big.f k (a.1) (a.2) h)⟩,
  ⟨14, anyArgs, wr [(.st [.str, (.int .i64), .bool])] [(.int .i64)] (fun a h => hand_Flags.f k a h)⟩,
  ⟨11, anyArgs, wr [(.int .i64), .sl] [.sl] (fun a h => corbellaw23_option.f k (a.1) (a.2) h)⟩,
  ⟨18, anyArgs, wr [.str] [.sl] (fun a h => corbelplay_Go.f k a h)⟩,
  ⟨9, anyArgs, wr [.ptr, .sl, .sl] [.sl, .sl] (fun a h => hand_Hand_Feed.f k (a.1) (a.2.1) (a.2.2) h)⟩,
  ⟨12, anyArgs, wr [.ptr] [.str, .bool] (fun a h => hand_Hand_Chosen.f k a h)⟩,
  ⟨13, anyArgs, wr [.ptr] [.bool] (fun a h => hand_Hand_Ended.f k a h)⟩]
noncomputable def corbellaw23_HandChooses.an (k : Nat) (p : Nat) : Option Ann := cond (Nat.beq p 2045) (some (.join [3, 11, 12] none [(13, .sl), (15, .str)]))
  (cond (Nat.beq p 32727) (some (.join [3, 11, 12, 13] none [(15, .str)]))
  (none))
noncomputable def corbellaw23_HandChooses.body : Code := (Try.f4.body).getD .skip
set_option maxRecDepth 100000 in
theorem corbellaw23_HandChooses.TS {C : FuncId → Bool} {X : CallF} (hX : XOk C X) (hK8 : KOk X 8) (k : Nat) : TblS Try.prog C X (corbellaw23_HandChooses.T k) := by
  refine tblOf_sound ?_
  intro e he
  rcases List.mem_cons.1 he with rfl | he
  · exact wr_told (corbelhand_Name.told hX k)
  rcases List.mem_cons.1 he with rfl | he
  · exact wr_told (corbelhand_Pick.told hX k)
  rcases List.mem_cons.1 he with rfl | he
  · exact wr_told (hand_New.told hX k)
  rcases List.mem_cons.1 he with rfl | he
  · exact knownW_told hK8
  rcases List.mem_cons.1 he with rfl | he
  · exact wr_told (corbelref7_Big.told hX k)
  rcases List.mem_cons.1 he with rfl | he
  · exact wr_told (hand_Flags.told hX k)
  rcases List.mem_cons.1 he with rfl | he
  · exact wr_told (corbellaw23_option.told hX k)
  rcases List.mem_cons.1 he with rfl | he
  · exact wr_told (corbelplay_Go.told hX k)
  rcases List.mem_cons.1 he with rfl | he
  · exact wr_told (hand_Hand_Feed.told hX k)
  rcases List.mem_cons.1 he with rfl | he
  · exact wr_told (hand_Hand_Chosen.told hX k)
  rcases List.mem_cons.1 he with rfl | he
  · exact wr_told (hand_Hand_Ended.told hX k)
  exact absurd he List.not_mem_nil
set_option maxRecDepth 100000 in
theorem corbellaw23_HandChooses.eq (k : Nat) (a : RT [(.int .i64), .bool, (.int .i64), .sl, (.int .i64)]) (h : H) : (fun a h => corbellaw23_HandChooses.f k (a.1) (a.2.1) (a.2.2.1) (a.2.2.2.1) (a.2.2.2.2) h) a h = kfun Try.prog (corbellaw23_HandChooses.T k) (corbellaw23_HandChooses.an k) (RT [.bool] × H) Try.f4 (encL [(.int .i64), .bool, (.int .i64), .sl, (.int .i64)] a) h (fun vs h' => (decL [.bool] vs).bind fun x => some (x, h')) := by kernel_rfl
set_option maxRecDepth 100000 in
theorem corbellaw23_HandChooses.told {C : FuncId → Bool} {X : CallF} (hX : XOk C X) (hK8 : KOk X 8) (k : Nat) : Den.Told Try.prog C X 4 [(.int .i64), .bool, (.int .i64), .sl, (.int .i64)] [.bool] (fun a h => corbellaw23_HandChooses.f k (a.1) (a.2.1) (a.2.2.1) (a.2.2.2.1) (a.2.2.2.2) h) :=
  told_of fun a h q e => fn_of (c := corbellaw23_HandChooses.body) (corbellaw23_HandChooses.TS hX hK8 k) Try.func4 (by kernel_rfl) (hX.no 4 _ h (by decide))
    (by
      have e : need (corbellaw23_HandChooses.an k) corbellaw23_HandChooses.body 1 = [] := by kernel_rfl
      rw [e]; intro q hq; cases hq)
    ((corbellaw23_HandChooses.eq k a h).symm.trans e)
/-! ### corbel/corbellaw23.two -/
noncomputable def corbellaw23_two.f (k : Nat) (h : H) : Option ((Sl) × H) :=
  some ((⟨(some ⟨h.next, 0, none⟩), 2, 2⟩ : Sl), (newR h 35 3 [(Value.string (⟨#[97]⟩ : ByteArray)), (Value.int .i64 (16 : Int)), (Value.bool false), (Value.string (⟨#[115]⟩ : ByteArray)), (Value.int .i64 (8 : Int)), (Value.bool true)]))
noncomputable def corbellaw23_two.T (k : Nat) : Tbl := tblOf []
noncomputable def corbellaw23_two.an (k : Nat) (p : Nat) : Option Ann := none
noncomputable def corbellaw23_two.body : Code := (Try.f10.body).getD .skip
set_option maxRecDepth 100000 in
theorem corbellaw23_two.TS {C : FuncId → Bool} {X : CallF} (hX : XOk C X) (k : Nat) : TblS Try.prog C X (corbellaw23_two.T k) := by
  refine tblOf_sound ?_
  intro e he
  exact absurd he List.not_mem_nil
set_option maxRecDepth 100000 in
theorem corbellaw23_two.eq (k : Nat) (a : RT []) (h : H) : (fun a h => corbellaw23_two.f k h) a h = kfun Try.prog (corbellaw23_two.T k) (corbellaw23_two.an k) (RT [.sl] × H) Try.f10 (encL [] a) h (fun vs h' => (decL [.sl] vs).bind fun x => some (x, h')) := by kernel_rfl
set_option maxRecDepth 100000 in
theorem corbellaw23_two.told {C : FuncId → Bool} {X : CallF} (hX : XOk C X) (k : Nat) : Den.Told Try.prog C X 10 [] [.sl] (fun a h => corbellaw23_two.f k h) :=
  told_of fun a h q e => fn_of (c := corbellaw23_two.body) (corbellaw23_two.TS hX k) Try.func10 (by kernel_rfl) (hX.no 10 _ h (by decide))
    (by
      have e : need (corbellaw23_two.an k) corbellaw23_two.body 1 = [] := by kernel_rfl
      rw [e]; intro q hq; cases hq)
    ((corbellaw23_two.eq k a h).symm.trans e)
/-! ### corbel/corbelhand.Odd -/
noncomputable def corbelhand_Odd.f (k : Nat) (a0 : Int) (a1 : ByteArray) (h : H) : Option ((ByteArray) × H) :=
  (corbelhand_Pick.f k a0 (40 : Int) h).bind fun q1 =>
    cond (q1.1 == (38 : Int))
      (some (a1, q1.2))
      (cond (q1.1 == (39 : Int))
      ((corbelhand_Pick.f k (wrapA .i64 (a0.tdiv (40 : Int))) (4 : Int) q1.2).bind fun q2 =>
    (asT (ixv 4 1 #[(Value.string (⟨#[]⟩ : ByteArray)), (Value.string (⟨#[85, 112, 112, 101, 114]⟩ : ByteArray)), (Value.string (⟨#[116, 111, 111, 108, 111, 110, 103, 110, 97, 109, 101]⟩ : ByteArray)), (Value.string (⟨#[97, 32, 98]⟩ : ByteArray))] q2.1)).bind fun s3 =>
    some (s3, q2.2))
      ((corbelhand_Name.f k a0 q1.2).bind fun q4 =>
    some (q4.1, q4.2)))
noncomputable def corbelhand_Odd.T (k : Nat) : Tbl := tblOf [⟨16, anyArgs, wr [(.int .i64), (.int .i64)] [(.int .i64)] (fun a h => corbelhand_Pick.f k (a.1) (a.2) h)⟩,
  ⟨15, anyArgs, wr [(.int .i64)] [.str] (fun a h => corbelhand_Name.f k a h)⟩]
noncomputable def corbelhand_Odd.an (k : Nat) (p : Nat) : Option Ann := none
noncomputable def corbelhand_Odd.body : Code := (Try.f26.body).getD .skip
set_option maxRecDepth 100000 in
theorem corbelhand_Odd.TS {C : FuncId → Bool} {X : CallF} (hX : XOk C X) (k : Nat) : TblS Try.prog C X (corbelhand_Odd.T k) := by
  refine tblOf_sound ?_
  intro e he
  rcases List.mem_cons.1 he with rfl | he
  · exact wr_told (corbelhand_Pick.told hX k)
  rcases List.mem_cons.1 he with rfl | he
  · exact wr_told (corbelhand_Name.told hX k)
  exact absurd he List.not_mem_nil
set_option maxRecDepth 100000 in
theorem corbelhand_Odd.eq (k : Nat) (a : RT [(.int .i64), .str]) (h : H) : (fun a h => corbelhand_Odd.f k (a.1) (a.2) h) a h = kfun Try.prog (corbelhand_Odd.T k) (corbelhand_Odd.an k) (RT [.str] × H) Try.f26 (encL [(.int .i64), .str] a) h (fun vs h' => (decL [.str] vs).bind fun x => some (x, h')) := by kernel_rfl
set_option maxRecDepth 100000 in
theorem corbelhand_Odd.told {C : FuncId → Bool} {X : CallF} (hX : XOk C X) (k : Nat) : Den.Told Try.prog C X 26 [(.int .i64), .str] [.str] (fun a h => corbelhand_Odd.f k (a.1) (a.2) h) :=
  told_of fun a h q e => fn_of (c := corbelhand_Odd.body) (corbelhand_Odd.TS hX k) Try.func26 (by kernel_rfl) (hX.no 26 _ h (by decide))
    (by
      have e : need (corbelhand_Odd.an k) corbelhand_Odd.body 1 = [] := by kernel_rfl
      rw [e]; intro q hq; cases hq)
    ((corbelhand_Odd.eq k a h).symm.trans e)
/-! ### corbel/corbellaw23.exports -/
noncomputable def corbellaw23_exports.l1 (k : Nat) (n : Nat) : Sl → Sl → Int → ByteArray → Int → Bool → Int → H → Option ((Bool) × H) :=
  Nat.rec (motive := fun _ => Sl → Sl → Int → ByteArray → Int → Bool → Int → H → Option ((Bool) × H)) (fun _ _ _ _ _ _ _ _ => none) (fun _ ih x14 x15 x16 x17 x18 x19 x20 h21 => cond (decide (x20 < x18))
      ((cond x19 (some (true, h21))
      ((asP (ixs 3 x15.a x15.n x20)).bind fun p50 =>
    (asP (fadd 0 p50)).bind fun p51 =>
    (asT (ldc h21 p51)).bind fun s52 =>
    some (s52.toList == x17.toList, h21))).bind fun g53 =>
    ih x14 x15 x16 x17 x18 g53.1 (wrapA .i64 (x20 + (1 : Int))) g53.2)
      (some (x19, h21))) n
theorem corbellaw23_exports.l1_zero (k : Nat) (x14 : Sl) (x15 : Sl) (x16 : Int) (x17 : ByteArray) (x18 : Int) (x19 : Bool) (x20 : Int) (h21 : H) : corbellaw23_exports.l1 k 0 x14 x15 x16 x17 x18 x19 x20 h21 = none := rfl
theorem corbellaw23_exports.l1_succ (k n : Nat) (x14 : Sl) (x15 : Sl) (x16 : Int) (x17 : ByteArray) (x18 : Int) (x19 : Bool) (x20 : Int) (h21 : H) : corbellaw23_exports.l1 k (n + 1) x14 x15 x16 x17 x18 x19 x20 h21 = (cond (decide (x20 < x18))
      ((cond x19 (some (true, h21))
      ((asP (ixs 3 x15.a x15.n x20)).bind fun p50 =>
    (asP (fadd 0 p50)).bind fun p51 =>
    (asT (ldc h21 p51)).bind fun s52 =>
    some (s52.toList == x17.toList, h21))).bind fun g53 =>
    corbellaw23_exports.l1 k n x14 x15 x16 x17 x18 g53.1 (wrapA .i64 (x20 + (1 : Int))) g53.2)
      (some (x19, h21))) := rfl
noncomputable def corbellaw23_exports.l0 (k : Nat) (n : Nat) : Sl → Sl → Int → H → Option ((Sl) × H) :=
  Nat.rec (motive := fun _ => Sl → Sl → Int → H → Option ((Sl) × H)) (fun _ _ _ _ => none) (fun _ ih x2 x3 x4 h5 => (cond (decide (x4 < (Int.ofNat x2.n))) (some (decide (x4 < (3 : Int)), h5))
      (some (false, h5))).bind fun g6 =>
    cond g6.1
      ((asP (ixs 5 x2.a x2.n x4)).bind fun p7 =>
    (asP (fadd 1 p7)).bind fun p8 =>
    (asI .i64 (ldc g6.2 p8)).bind fun n9 =>
    (asP (ixs 5 x2.a x2.n x4)).bind fun p10 =>
    (asP (fadd 4 p10)).bind fun p11 =>
    (asT (ldc g6.2 p11)).bind fun s12 =>
    (corbelhand_Odd.f k n9 s12 g6.2).bind fun q13 =>
    (corbellaw23_exports.l1 k k x2 x3 x4 q13.1 (Int.ofNat x3.n) false (0 : Int) q13.2).bind fun w54 =>
    (cond (!w54.1)
      ((asP (ixs 5 x2.a x2.n x4)).bind fun p55 =>
    (asP (fadd 2 p55)).bind fun p56 =>
    (asI .i64 (ldc w54.2 p56)).bind fun n57 =>
    (corbelhand_Pick.f k n57 (300 : Int) w54.2).bind fun q58 =>
    (asP (ixs 5 x2.a x2.n x4)).bind fun p59 =>
    (asP (fadd 0 p59)).bind fun p60 =>
    (asI .i64 (ldc q58.2 p60)).bind fun n61 =>
    (asS2 (apv 35 3 32 (Value.slice x3.a x3.n x3.c) (Value.slice (some ⟨q58.2.next, 0, none⟩) 1 1) (newR q58.2 35 3 [(Value.string q13.1), (Value.int .i64 q58.1), (Value.bool ((n61.tmod (2 : Int)) == (0 : Int)))]))).bind fun q62 =>
    cond (same1 w54.2 q58.2 (some (Value.pointer p60)) && (true)) (some (q62.1, q62.2)) none)
      (some (x3, w54.2)) : Option ((Sl) × H)).bind fun j63 =>
    ih x2 j63.1 (wrapA .i64 (x4 + (1 : Int))) j63.2)
      (some (x3, g6.2))) n
theorem corbellaw23_exports.l0_zero (k : Nat) (x2 : Sl) (x3 : Sl) (x4 : Int) (h5 : H) : corbellaw23_exports.l0 k 0 x2 x3 x4 h5 = none := rfl
theorem corbellaw23_exports.l0_succ (k n : Nat) (x2 : Sl) (x3 : Sl) (x4 : Int) (h5 : H) : corbellaw23_exports.l0 k (n + 1) x2 x3 x4 h5 = ((cond (decide (x4 < (Int.ofNat x2.n))) (some (decide (x4 < (3 : Int)), h5))
      (some (false, h5))).bind fun g6 =>
    cond g6.1
      ((asP (ixs 5 x2.a x2.n x4)).bind fun p7 =>
    (asP (fadd 1 p7)).bind fun p8 =>
    (asI .i64 (ldc g6.2 p8)).bind fun n9 =>
    (asP (ixs 5 x2.a x2.n x4)).bind fun p10 =>
    (asP (fadd 4 p10)).bind fun p11 =>
    (asT (ldc g6.2 p11)).bind fun s12 =>
    (corbelhand_Odd.f k n9 s12 g6.2).bind fun q13 =>
    (corbellaw23_exports.l1 k k x2 x3 x4 q13.1 (Int.ofNat x3.n) false (0 : Int) q13.2).bind fun w54 =>
    (cond (!w54.1)
      ((asP (ixs 5 x2.a x2.n x4)).bind fun p55 =>
    (asP (fadd 2 p55)).bind fun p56 =>
    (asI .i64 (ldc w54.2 p56)).bind fun n57 =>
    (corbelhand_Pick.f k n57 (300 : Int) w54.2).bind fun q58 =>
    (asP (ixs 5 x2.a x2.n x4)).bind fun p59 =>
    (asP (fadd 0 p59)).bind fun p60 =>
    (asI .i64 (ldc q58.2 p60)).bind fun n61 =>
    (asS2 (apv 35 3 32 (Value.slice x3.a x3.n x3.c) (Value.slice (some ⟨q58.2.next, 0, none⟩) 1 1) (newR q58.2 35 3 [(Value.string q13.1), (Value.int .i64 q58.1), (Value.bool ((n61.tmod (2 : Int)) == (0 : Int)))]))).bind fun q62 =>
    cond (same1 w54.2 q58.2 (some (Value.pointer p60)) && (true)) (some (q62.1, q62.2)) none)
      (some (x3, w54.2)) : Option ((Sl) × H)).bind fun j63 =>
    corbellaw23_exports.l0 k n x2 j63.1 (wrapA .i64 (x4 + (1 : Int))) j63.2)
      (some (x3, g6.2))) := rfl
noncomputable def corbellaw23_exports.f (k : Nat) (a0 : Sl) (h : H) : Option ((Sl) × H) :=
  (corbellaw23_two.f k h).bind fun q1 =>
    (corbellaw23_exports.l0 k k a0 q1.1 (0 : Int) q1.2).bind fun w64 =>
    some (w64.1, w64.2)
noncomputable def corbellaw23_exports.T (k : Nat) : Tbl := tblOf [⟨10, anyArgs, wr [] [.sl] (fun a h => corbellaw23_two.f k h)⟩,
  ⟨26, anyArgs, wr [(.int .i64), .str] [.str] (fun a h => corbelhand_Odd.f k (a.1) (a.2) h)⟩,
  ⟨16, anyArgs, wr [(.int .i64), (.int .i64)] [(.int .i64)] (fun a h => corbelhand_Pick.f k (a.1) (a.2) h)⟩]
noncomputable def corbellaw23_exports.an (k : Nat) (p : Nat) : Option Ann := cond (Nat.beq p 58) (some (.pass [] (lrun [(0, .sl), (3, .sl), (4, (.int .i64))] none [(3, .sl)] 0 (fun a h => corbellaw23_exports.l0 k k (a.1) (a.2.1) (a.2.2) h))))
  (cond (Nat.beq p 14927) (some (.join [0, 4] none [(3, .sl)]))
  (cond (Nat.beq p 29850) (some (.pass [0, 3, 4, 5] (lrun [(0, .sl), (3, .sl), (4, (.int .i64)), (5, .str), (31, (.int .i64)), (6, .bool), (32, (.int .i64))] none [(6, .bool)] 2 (fun a h => corbellaw23_exports.l1 k k (a.1) (a.2.1) (a.2.2.1) (a.2.2.2.1) (a.2.2.2.2.1) (a.2.2.2.2.2.1) (a.2.2.2.2.2.2) h))))
  (none)))
noncomputable def corbellaw23_exports.body : Code := (Try.f19.body).getD .skip
noncomputable def corbellaw23_exports.c58 : Code := cat corbellaw23_exports.body [1, 1, 0, 1, 0, 0]
noncomputable def corbellaw23_exports.c29850 : Code := cat corbellaw23_exports.body [1, 1, 0, 1, 0, 0, 1, 0, 0, 1, 1, 0, 1, 0, 0]
set_option maxRecDepth 100000 in
theorem corbellaw23_exports.TS {C : FuncId → Bool} {X : CallF} (hX : XOk C X) (k : Nat) : TblS Try.prog C X (corbellaw23_exports.T k) := by
  refine tblOf_sound ?_
  intro e he
  rcases List.mem_cons.1 he with rfl | he
  · exact wr_told (corbellaw23_two.told hX k)
  rcases List.mem_cons.1 he with rfl | he
  · exact wr_told (corbelhand_Odd.told hX k)
  rcases List.mem_cons.1 he with rfl | he
  · exact wr_told (corbelhand_Pick.told hX k)
  exact absurd he List.not_mem_nil
set_option maxRecDepth 100000 in
theorem corbellaw23_exports.l1_pass {C : FuncId → Bool} {X : CallF} (hX : XOk C X) (k n : Nat) : PassS Try.prog C X 67 (.loop corbellaw23_exports.c29850) (lrun [(0, .sl), (3, .sl), (4, (.int .i64)), (5, .str), (31, (.int .i64)), (6, .bool), (32, (.int .i64))] none [(6, .bool)] 2 (fun a h => corbellaw23_exports.l1 k n (a.1) (a.2.1) (a.2.2.1) (a.2.2.2.1) (a.2.2.2.2.1) (a.2.2.2.2.2.1) (a.2.2.2.2.2.2) h)) :=
  loop_pass (ins := [(0, .sl), (3, .sl), (4, (.int .i64)), (5, .str), (31, (.int .i64)), (6, .bool), (32, (.int .i64))]) (rets := none) (outs := [(6, .bool)]) (id := 2) (tbl := corbellaw23_exports.T k) (an := corbellaw23_exports.an k) (pb := 59700) (corbellaw23_exports.TS hX k) (fun n => (fun a h => corbellaw23_exports.l1 k n (a.1) (a.2.1) (a.2.2.1) (a.2.2.2.1) (a.2.2.2.2.1) (a.2.2.2.2.2.1) (a.2.2.2.2.2.2) h)) (fun a h => rfl) (fun n a h => by kernel_rfl)
    (by
      have e : need (corbellaw23_exports.an k) corbellaw23_exports.c29850 59700 = [] := by kernel_rfl
      rw [e]; intro q hq; cases hq) n
set_option maxRecDepth 100000 in
theorem corbellaw23_exports.l0_pass {C : FuncId → Bool} {X : CallF} (hX : XOk C X) (k n : Nat) : PassS Try.prog C X 67 (.loop corbellaw23_exports.c58) (lrun [(0, .sl), (3, .sl), (4, (.int .i64))] none [(3, .sl)] 0 (fun a h => corbellaw23_exports.l0 k n (a.1) (a.2.1) (a.2.2) h)) :=
  loop_pass (ins := [(0, .sl), (3, .sl), (4, (.int .i64))]) (rets := none) (outs := [(3, .sl)]) (id := 0) (tbl := corbellaw23_exports.T k) (an := corbellaw23_exports.an k) (pb := 116) (corbellaw23_exports.TS hX k) (fun n => (fun a h => corbellaw23_exports.l0 k n (a.1) (a.2.1) (a.2.2) h)) (fun a h => rfl) (fun n a h => by kernel_rfl)
    (by
      have e : need (corbellaw23_exports.an k) corbellaw23_exports.c58 116 = [(Code.loop corbellaw23_exports.c29850, lrun [(0, .sl), (3, .sl), (4, (.int .i64)), (5, .str), (31, (.int .i64)), (6, .bool), (32, (.int .i64))] none [(6, .bool)] 2 (fun a h => corbellaw23_exports.l1 k k (a.1) (a.2.1) (a.2.2.1) (a.2.2.2.1) (a.2.2.2.2.1) (a.2.2.2.2.2.1) (a.2.2.2.2.2.2) h))] := by kernel_rfl
      rw [e]; intro q hq
      rcases List.mem_cons.1 hq with rfl | hq
      · exact corbellaw23_exports.l1_pass hX k k
      cases hq) n
set_option maxRecDepth 100000 in
theorem corbellaw23_exports.eq (k : Nat) (a : RT [.sl]) (h : H) : (fun a h => corbellaw23_exports.f k a h) a h = kfun Try.prog (corbellaw23_exports.T k) (corbellaw23_exports.an k) (RT [.sl] × H) Try.f19 (encL [.sl] a) h (fun vs h' => (decL [.sl] vs).bind fun x => some (x, h')) := by kernel_rfl
set_option maxRecDepth 100000 in
theorem corbellaw23_exports.told {C : FuncId → Bool} {X : CallF} (hX : XOk C X) (k : Nat) : Den.Told Try.prog C X 19 [.sl] [.sl] (fun a h => corbellaw23_exports.f k a h) :=
  told_of fun a h q e => fn_of (c := corbellaw23_exports.body) (corbellaw23_exports.TS hX k) Try.func19 (by kernel_rfl) (hX.no 19 _ h (by decide))
    (by
      have e : need (corbellaw23_exports.an k) corbellaw23_exports.body 1 = [(Code.loop corbellaw23_exports.c58, lrun [(0, .sl), (3, .sl), (4, (.int .i64))] none [(3, .sl)] 0 (fun a h => corbellaw23_exports.l0 k k (a.1) (a.2.1) (a.2.2) h))] := by kernel_rfl
      rw [e]; intro q hq
      rcases List.mem_cons.1 hq with rfl | hq
      · exact corbellaw23_exports.l0_pass hX k k
      cases hq)
    ((corbellaw23_exports.eq k a h).symm.trans e)
/-! ### corbel/corbellaw23.HandLists -/
noncomputable def corbellaw23_HandLists.l1 (k : Nat) (n : Nat) : Int → Sl → (Option Addr) → (Option Addr) → ByteArray → Int → H → Option (((Bool) ⊕ (Unit)) × H) :=
  Nat.rec (motive := fun _ => Int → Sl → (Option Addr) → (Option Addr) → ByteArray → Int → H → Option (((Bool) ⊕ (Unit)) × H)) (fun _ _ _ _ _ _ _ => none) (fun _ ih x37 x38 x39 x40 x41 x42 h43 => (corbelhand_Pick.f k x37 (4 : Int) h43).bind fun q44 =>
    cond (decide (x42 ≤ q44.1))
      ((corbellaw23_option.f k (3 : Int) (⟨none, 0, 0⟩ : Sl) q44.2).bind fun q45 =>
    (hand_Hand_Feed.f k x39 q45.1 x38 q45.2).bind fun q46 =>
    (asT (txt q46.2 (Value.slice q46.1.1.a q46.1.1.n q46.1.1.c))).bind fun s47 =>
    (cond (!(s47.toList == x41.toList)) (some (true, q46.2))
      (some (decide ((Int.ofNat q46.1.2.n) > (0 : Int)), q46.2))).bind fun g48 =>
    (cond g48.1 (some (true, g48.2))
      ((hand_Hand_Ended.f k x39 g48.2).bind fun q49 =>
    some (q49.1, q49.2))).bind fun g50 =>
    cond g50.1
      (some (Sum.inl false, g50.2))
      (ih x37 x38 x39 x40 x41 (wrapA .i64 (x42 + (1 : Int))) g50.2))
      (some (Sum.inr (), q44.2))) n
theorem corbellaw23_HandLists.l1_zero (k : Nat) (x37 : Int) (x38 : Sl) (x39 : Option Addr) (x40 : Option Addr) (x41 : ByteArray) (x42 : Int) (h43 : H) : corbellaw23_HandLists.l1 k 0 x37 x38 x39 x40 x41 x42 h43 = none := rfl
theorem corbellaw23_HandLists.l1_succ (k n : Nat) (x37 : Int) (x38 : Sl) (x39 : Option Addr) (x40 : Option Addr) (x41 : ByteArray) (x42 : Int) (h43 : H) : corbellaw23_HandLists.l1 k (n + 1) x37 x38 x39 x40 x41 x42 h43 = ((corbelhand_Pick.f k x37 (4 : Int) h43).bind fun q44 =>
    cond (decide (x42 ≤ q44.1))
      ((corbellaw23_option.f k (3 : Int) (⟨none, 0, 0⟩ : Sl) q44.2).bind fun q45 =>
    (hand_Hand_Feed.f k x39 q45.1 x38 q45.2).bind fun q46 =>
    (asT (txt q46.2 (Value.slice q46.1.1.a q46.1.1.n q46.1.1.c))).bind fun s47 =>
    (cond (!(s47.toList == x41.toList)) (some (true, q46.2))
      (some (decide ((Int.ofNat q46.1.2.n) > (0 : Int)), q46.2))).bind fun g48 =>
    (cond g48.1 (some (true, g48.2))
      ((hand_Hand_Ended.f k x39 g48.2).bind fun q49 =>
    some (q49.1, q49.2))).bind fun g50 =>
    cond g50.1
      (some (Sum.inl false, g50.2))
      (corbellaw23_HandLists.l1 k n x37 x38 x39 x40 x41 (wrapA .i64 (x42 + (1 : Int))) g50.2))
      (some (Sum.inr (), q44.2))) := rfl
noncomputable def corbellaw23_HandLists.l0 (k : Nat) (n : Nat) : Int → Sl → (Option Addr) → (Option Addr) → ByteArray → Sl → Int → ByteArray → Int → H → Option ((ByteArray) × H) :=
  Nat.rec (motive := fun _ => Int → Sl → (Option Addr) → (Option Addr) → ByteArray → Sl → Int → ByteArray → Int → H → Option ((ByteArray) × H)) (fun _ _ _ _ _ _ _ _ _ _ => none) (fun _ ih x8 x9 x10 x11 x12 x13 x14 x15 x16 h17 => cond (decide (x16 < x14))
      ((asP (ixs 3 x13.a x13.n x16)).bind fun p18 =>
    (asSt [.str, (.int .i64), .bool] (lda 3 h17 p18)).bind fun s19 =>
    (stv 3 (newR h17 35 3 [(Value.string (⟨#[]⟩ : ByteArray)), (Value.int .i64 (0 : Int)), (Value.bool false)]) (some ⟨h17.next, 0, none⟩) [(Value.string s19.1), (Value.int .i64 s19.2.1), (Value.bool s19.2.2)]).bind fun q20 =>
    (asT (ldc q20.2 (some ⟨h17.next, 0, none⟩))).bind fun s21 =>
    (asT (strA .add x15 x12)).bind fun s22 =>
    (asT (strA .add s22 (⟨#[2]⟩ : ByteArray))).bind fun s23 =>
    (corbelref7_Big.f k (wrapA .i64 ((Int.ofNat s21.data.toList.length) + (4 : Int))) (4 : Int) q20.2).bind fun q24 =>
    (asT (txt q24.2 (Value.slice q24.1.a q24.1.n q24.1.c))).bind fun s25 =>
    (asT (strA .add s23 s25)).bind fun s26 =>
    (corbelref7_Big.f k (Int.ofNat s21.data.toList.length) (4 : Int) q24.2).bind fun q27 =>
    (asT (txt q27.2 (Value.slice q27.1.a q27.1.n q27.1.c))).bind fun s28 =>
    (asT (strA .add s26 s28)).bind fun s29 =>
    (asT (ldc q27.2 (some ⟨h17.next, 0, none⟩))).bind fun s30 =>
    (asT (strA .add s29 s30)).bind fun s31 =>
    cond (same1 q24.2 q27.2 (some (Value.slice q24.1.a q24.1.n q24.1.c)) && (same1 q20.2 q24.2 (some (Value.pointer (some ⟨h17.next, 0, none⟩))) && (same1 q24.2 q27.2 (some (Value.pointer (some ⟨h17.next, 0, none⟩))) && (true)))) (ih x8 x9 x10 x11 x12 x13 x14 s31 (wrapA .i64 (x16 + (1 : Int))) q27.2) none)
      (some (x15, h17))) n
theorem corbellaw23_HandLists.l0_zero (k : Nat) (x8 : Int) (x9 : Sl) (x10 : Option Addr) (x11 : Option Addr) (x12 : ByteArray) (x13 : Sl) (x14 : Int) (x15 : ByteArray) (x16 : Int) (h17 : H) : corbellaw23_HandLists.l0 k 0 x8 x9 x10 x11 x12 x13 x14 x15 x16 h17 = none := rfl
theorem corbellaw23_HandLists.l0_succ (k n : Nat) (x8 : Int) (x9 : Sl) (x10 : Option Addr) (x11 : Option Addr) (x12 : ByteArray) (x13 : Sl) (x14 : Int) (x15 : ByteArray) (x16 : Int) (h17 : H) : corbellaw23_HandLists.l0 k (n + 1) x8 x9 x10 x11 x12 x13 x14 x15 x16 h17 = (cond (decide (x16 < x14))
      ((asP (ixs 3 x13.a x13.n x16)).bind fun p18 =>
    (asSt [.str, (.int .i64), .bool] (lda 3 h17 p18)).bind fun s19 =>
    (stv 3 (newR h17 35 3 [(Value.string (⟨#[]⟩ : ByteArray)), (Value.int .i64 (0 : Int)), (Value.bool false)]) (some ⟨h17.next, 0, none⟩) [(Value.string s19.1), (Value.int .i64 s19.2.1), (Value.bool s19.2.2)]).bind fun q20 =>
    (asT (ldc q20.2 (some ⟨h17.next, 0, none⟩))).bind fun s21 =>
    (asT (strA .add x15 x12)).bind fun s22 =>
    (asT (strA .add s22 (⟨#[2]⟩ : ByteArray))).bind fun s23 =>
    (corbelref7_Big.f k (wrapA .i64 ((Int.ofNat s21.data.toList.length) + (4 : Int))) (4 : Int) q20.2).bind fun q24 =>
    (asT (txt q24.2 (Value.slice q24.1.a q24.1.n q24.1.c))).bind fun s25 =>
    (asT (strA .add s23 s25)).bind fun s26 =>
    (corbelref7_Big.f k (Int.ofNat s21.data.toList.length) (4 : Int) q24.2).bind fun q27 =>
    (asT (txt q27.2 (Value.slice q27.1.a q27.1.n q27.1.c))).bind fun s28 =>
    (asT (strA .add s26 s28)).bind fun s29 =>
    (asT (ldc q27.2 (some ⟨h17.next, 0, none⟩))).bind fun s30 =>
    (asT (strA .add s29 s30)).bind fun s31 =>
    cond (same1 q24.2 q27.2 (some (Value.slice q24.1.a q24.1.n q24.1.c)) && (same1 q20.2 q24.2 (some (Value.pointer (some ⟨h17.next, 0, none⟩))) && (same1 q24.2 q27.2 (some (Value.pointer (some ⟨h17.next, 0, none⟩))) && (true)))) (corbellaw23_HandLists.l0 k n x8 x9 x10 x11 x12 x13 x14 s31 (wrapA .i64 (x16 + (1 : Int))) q27.2) none)
      (some (x15, h17))) := rfl
noncomputable def corbellaw23_HandLists.f (k : Nat) (a0 : Sl) (a1 : Int) (h : H) : Option ((Bool) × H) :=
  (corbellaw23_exports.f k a0 h).bind fun q1 =>
    (hand_New.f k q1.2).bind fun q2 =>
    (hand_New.f k q2.2).bind fun q3 =>
    (cond (!true) (some (true, q3.2))
      ((asB (binO1 Try.prog .eql 22 (Value.pointer q2.1) (Value.pointer none))).bind fun b4 =>
    some (b4, q3.2))).bind fun g5 =>
    (cond g5.1 (some (true, g5.2))
      ((asB (binO1 Try.prog .eql 22 (Value.pointer q3.1) (Value.pointer none))).bind fun b6 =>
    some (b6, g5.2))).bind fun g7 =>
    cond g7.1
      (some (false, g7.2))
      ((corbellaw23_HandLists.l0 k k a1 q1.1 q2.1 q3.1 (⟨#[0, 3, 232, 137, 4, 85, 101, 169, 0, 0, 0, 3, 0, 0, 0]⟩ : ByteArray) q1.1 (Int.ofNat q1.1.n) (⟨#[]⟩ : ByteArray) (0 : Int) g7.2).bind fun w32 =>
    (asT (strA .add w32.1 (⟨#[0, 3, 232, 137, 4, 85, 101, 169, 0, 0, 0, 3, 0, 0, 0]⟩ : ByteArray))).bind fun s33 =>
    (asT (strA .add s33 (⟨#[1, 0, 0, 0, 0]⟩ : ByteArray))).bind fun s34 =>
    (hand_Hand_Feed.f k q2.1 (⟨(some ⟨w32.2.next, 0, none⟩), 4, 4⟩ : Sl) q1.1 (newR w32.2 5 1 [(Value.int .u8 (0 : Int)), (Value.int .u8 (0 : Int)), (Value.int .u8 (0 : Int)), (Value.int .u8 (3 : Int))])).bind fun q35 =>
    (hand_Hand_Feed.f k q3.1 (⟨(some ⟨q35.2.next, 0, none⟩), 4, 4⟩ : Sl) q1.1 (newR q35.2 5 1 [(Value.int .u8 (0 : Int)), (Value.int .u8 (0 : Int)), (Value.int .u8 (0 : Int)), (Value.int .u8 (3 : Int))])).bind fun q36 =>
    (corbellaw23_HandLists.l1 k k a1 q1.1 q2.1 q3.1 s34 (0 : Int) q36.2).bind fun w51 =>
    match w51.1 with
    | .inl r52 => some (r52, w51.2)
    | .inr o53 => (asS2 (cvs (newR w51.2 5 1 [(Value.int .u8 (115 : Int))]) (Value.slice (some ⟨w51.2.next, 0, none⟩) 1 1))).bind fun q54 =>
    (corbellaw23_option.f k (1 : Int) q54.1 q54.2).bind fun q55 =>
    (hand_Hand_Feed.f k q2.1 q55.1 q1.1 q55.2).bind fun q56 =>
    (asS2 (cvs (newR q56.2 5 1 [(Value.int .u8 (115 : Int))]) (Value.slice (some ⟨q56.2.next, 0, none⟩) 1 1))).bind fun q57 =>
    (corbellaw23_option.f k (1 : Int) q57.1 q57.2).bind fun q58 =>
    (hand_Hand_Feed.f k q3.1 q58.1 q1.1 q58.2).bind fun q59 =>
    (hand_Hand_Chosen.f k q2.1 q59.2).bind fun q60 =>
    (hand_Hand_Chosen.f k q3.1 q60.2).bind fun q61 =>
    (asT (txt q61.2 (Value.slice q56.1.1.a q56.1.1.n q56.1.1.c))).bind fun s62 =>
    (asT (txt q61.2 (Value.slice q59.1.1.a q59.1.1.n q59.1.1.c))).bind fun s63 =>
    (cond (s62.toList == s63.toList) (some ((Int.ofNat q56.1.1.n) == (10 : Int), q61.2))
      (some (false, q61.2))).bind fun g64 =>
    (cond g64.1 (some (q60.1.1.toList == q61.1.1.toList, g64.2))
      (some (false, g64.2))).bind fun g65 =>
    (cond g65.1 (some (q60.1.2, g65.2))
      (some (false, g65.2))).bind fun g66 =>
    (cond g66.1 (some (q61.1.2, g66.2))
      (some (false, g66.2))).bind fun g67 =>
    some (g67.1, g67.2))
noncomputable def corbellaw23_HandLists.T (k : Nat) : Tbl := tblOf [⟨19, anyArgs, wr [.sl] [.sl] (fun a h => corbellaw23_exports.f k a h)⟩,
  ⟨7, anyArgs, wr [] [.ptr] (fun a h => hand_New.f k h)⟩,
  ⟨8, anyArgs, knownW⟩,
  ⟨17, anyArgs, wr [(.int .i64), (.int .i64)] [.sl] (fun a h => corbelref7_Big.f k (a.1) (a.2) h)⟩,
  ⟨9, anyArgs, wr [.ptr, .sl, .sl] [.sl, .sl] (fun a h => hand_Hand_Feed.f k (a.1) (a.2.1) (a.2.2) h)⟩,
  ⟨16, anyArgs, wr [(.int .i64), (.int .i64)] [(.int .i64)] (fun a h => corbelhand_Pick.f k (a.1) (a.2) h)⟩,
  ⟨11, anyArgs, wr [(.int .i64), .sl] [.sl] (fun a h => corbellaw23_option.f k (a.1) (a.2) h)⟩,
  ⟨13, anyArgs, wr [.ptr] [.bool] (fun a h => hand_Hand_Ended.f k a h)⟩,
  ⟨12, anyArgs, wr [.ptr] [.str, .bool] (fun a h => hand_Hand_Chosen.f k a h)⟩]
noncomputable def corbellaw23_HandLists.an (k : Nat) (p : Nat) : Option Ann := cond (Nat.beq p 32762) (some (.pass [5, 6, 7] (lrun [(1, (.int .i64)), (5, .sl), (6, .ptr), (7, .ptr), (8, .str), (13, (.int .i64))] (some [(4, .bool)]) [] 2 (fun a h => corbellaw23_HandLists.l1 k k (a.1) (a.2.1) (a.2.2.1) (a.2.2.2.1) (a.2.2.2.2.1) (a.2.2.2.2.2) h))))
  (cond (Nat.beq p 2042) (some (.pass [1, 5, 6, 7, 9] (lrun [(1, (.int .i64)), (5, .sl), (6, .ptr), (7, .ptr), (9, .str), (38, .sl), (39, (.int .i64)), (8, .str), (40, (.int .i64))] none [(8, .str)] 0 (fun a h => corbellaw23_HandLists.l0 k k (a.1) (a.2.1) (a.2.2.1) (a.2.2.2.1) (a.2.2.2.2.1) (a.2.2.2.2.2.1) (a.2.2.2.2.2.2.1) (a.2.2.2.2.2.2.2.1) (a.2.2.2.2.2.2.2.2) h))))
  (none))
noncomputable def corbellaw23_HandLists.body : Code := (Try.f5.body).getD .skip
noncomputable def corbellaw23_HandLists.c2042 : Code := cat corbellaw23_HandLists.body [1, 1, 1, 1, 1, 1, 1, 0, 1, 0, 0]
noncomputable def corbellaw23_HandLists.c32762 : Code := cat corbellaw23_HandLists.body [1, 1, 1, 1, 1, 1, 1, 1, 1, 1, 1, 0, 1, 0, 0]
set_option maxRecDepth 100000 in
theorem corbellaw23_HandLists.TS {C : FuncId → Bool} {X : CallF} (hX : XOk C X) (hK8 : KOk X 8) (k : Nat) : TblS Try.prog C X (corbellaw23_HandLists.T k) := by
  refine tblOf_sound ?_
  intro e he
  rcases List.mem_cons.1 he with rfl | he
  · exact wr_told (corbellaw23_exports.told hX k)
  rcases List.mem_cons.1 he with rfl | he
  · exact wr_told (hand_New.told hX k)
  rcases List.mem_cons.1 he with rfl | he
  · exact knownW_told hK8
  rcases List.mem_cons.1 he with rfl | he
  · exact wr_told (corbelref7_Big.told hX k)
  rcases List.mem_cons.1 he with rfl | he
  · exact wr_told (hand_Hand_Feed.told hX k)
  rcases List.mem_cons.1 he with rfl | he
  · exact wr_told (corbelhand_Pick.told hX k)
  rcases List.mem_cons.1 he with rfl | he
  · exact wr_told (corbellaw23_option.told hX k)
  rcases List.mem_cons.1 he with rfl | he
  · exact wr_told (hand_Hand_Ended.told hX k)
  rcases List.mem_cons.1 he with rfl | he
  · exact wr_told (hand_Hand_Chosen.told hX k)
  exact absurd he List.not_mem_nil
set_option maxRecDepth 100000 in
theorem corbellaw23_HandLists.l1_pass {C : FuncId → Bool} {X : CallF} (hX : XOk C X) (hK8 : KOk X 8) (k n : Nat) : PassS Try.prog C X 151 (.loop corbellaw23_HandLists.c32762) (lrun [(1, (.int .i64)), (5, .sl), (6, .ptr), (7, .ptr), (8, .str), (13, (.int .i64))] (some [(4, .bool)]) [] 2 (fun a h => corbellaw23_HandLists.l1 k n (a.1) (a.2.1) (a.2.2.1) (a.2.2.2.1) (a.2.2.2.2.1) (a.2.2.2.2.2) h)) :=
  loop_pass (ins := [(1, (.int .i64)), (5, .sl), (6, .ptr), (7, .ptr), (8, .str), (13, (.int .i64))]) (rets := (some [(4, .bool)])) (outs := []) (id := 2) (tbl := corbellaw23_HandLists.T k) (an := corbellaw23_HandLists.an k) (pb := 65524) (corbellaw23_HandLists.TS hX hK8 k) (fun n => (fun a h => corbellaw23_HandLists.l1 k n (a.1) (a.2.1) (a.2.2.1) (a.2.2.2.1) (a.2.2.2.2.1) (a.2.2.2.2.2) h)) (fun a h => rfl) (fun n a h => by kernel_rfl)
    (by
      have e : need (corbellaw23_HandLists.an k) corbellaw23_HandLists.c32762 65524 = [] := by kernel_rfl
      rw [e]; intro q hq; cases hq) n
set_option maxRecDepth 100000 in
theorem corbellaw23_HandLists.l0_pass {C : FuncId → Bool} {X : CallF} (hX : XOk C X) (hK8 : KOk X 8) (k n : Nat) : PassS Try.prog C X 151 (.loop corbellaw23_HandLists.c2042) (lrun [(1, (.int .i64)), (5, .sl), (6, .ptr), (7, .ptr), (9, .str), (38, .sl), (39, (.int .i64)), (8, .str), (40, (.int .i64))] none [(8, .str)] 0 (fun a h => corbellaw23_HandLists.l0 k n (a.1) (a.2.1) (a.2.2.1) (a.2.2.2.1) (a.2.2.2.2.1) (a.2.2.2.2.2.1) (a.2.2.2.2.2.2.1) (a.2.2.2.2.2.2.2.1) (a.2.2.2.2.2.2.2.2) h)) :=
  loop_pass (ins := [(1, (.int .i64)), (5, .sl), (6, .ptr), (7, .ptr), (9, .str), (38, .sl), (39, (.int .i64)), (8, .str), (40, (.int .i64))]) (rets := none) (outs := [(8, .str)]) (id := 0) (tbl := corbellaw23_HandLists.T k) (an := corbellaw23_HandLists.an k) (pb := 4084) (corbellaw23_HandLists.TS hX hK8 k) (fun n => (fun a h => corbellaw23_HandLists.l0 k n (a.1) (a.2.1) (a.2.2.1) (a.2.2.2.1) (a.2.2.2.2.1) (a.2.2.2.2.2.1) (a.2.2.2.2.2.2.1) (a.2.2.2.2.2.2.2.1) (a.2.2.2.2.2.2.2.2) h)) (fun a h => rfl) (fun n a h => by kernel_rfl)
    (by
      have e : need (corbellaw23_HandLists.an k) corbellaw23_HandLists.c2042 4084 = [] := by kernel_rfl
      rw [e]; intro q hq; cases hq) n
set_option maxRecDepth 100000 in
theorem corbellaw23_HandLists.eq (k : Nat) (a : RT [.sl, (.int .i64)]) (h : H) : (fun a h => corbellaw23_HandLists.f k (a.1) (a.2) h) a h = kfun Try.prog (corbellaw23_HandLists.T k) (corbellaw23_HandLists.an k) (RT [.bool] × H) Try.f5 (encL [.sl, (.int .i64)] a) h (fun vs h' => (decL [.bool] vs).bind fun x => some (x, h')) := by kernel_rfl
set_option maxRecDepth 100000 in
theorem corbellaw23_HandLists.told {C : FuncId → Bool} {X : CallF} (hX : XOk C X) (hK8 : KOk X 8) (k : Nat) : Den.Told Try.prog C X 5 [.sl, (.int .i64)] [.bool] (fun a h => corbellaw23_HandLists.f k (a.1) (a.2) h) :=
  told_of fun a h q e => fn_of (c := corbellaw23_HandLists.body) (corbellaw23_HandLists.TS hX hK8 k) Try.func5 (by kernel_rfl) (hX.no 5 _ h (by decide))
    (by
      have e : need (corbellaw23_HandLists.an k) corbellaw23_HandLists.body 1 = [(Code.loop corbellaw23_HandLists.c2042, lrun [(1, (.int .i64)), (5, .sl), (6, .ptr), (7, .ptr), (9, .str), (38, .sl), (39, (.int .i64)), (8, .str), (40, (.int .i64))] none [(8, .str)] 0 (fun a h => corbellaw23_HandLists.l0 k k (a.1) (a.2.1) (a.2.2.1) (a.2.2.2.1) (a.2.2.2.2.1) (a.2.2.2.2.2.1) (a.2.2.2.2.2.2.1) (a.2.2.2.2.2.2.2.1) (a.2.2.2.2.2.2.2.2) h)), (Code.loop corbellaw23_HandLists.c32762, lrun [(1, (.int .i64)), (5, .sl), (6, .ptr), (7, .ptr), (8, .str), (13, (.int .i64))] (some [(4, .bool)]) [] 2 (fun a h => corbellaw23_HandLists.l1 k k (a.1) (a.2.1) (a.2.2.1) (a.2.2.2.1) (a.2.2.2.2.1) (a.2.2.2.2.2) h))] := by kernel_rfl
      rw [e]; intro q hq
      rcases List.mem_cons.1 hq with rfl | hq
      · exact corbellaw23_HandLists.l0_pass hX hK8 k k
      rcases List.mem_cons.1 hq with rfl | hq
      · exact corbellaw23_HandLists.l1_pass hX hK8 k k
      cases hq)
    ((corbellaw23_HandLists.eq k a h).symm.trans e)
/-! ### corbel/corbelhand.Few -/
noncomputable def corbelhand_Few.f (k : Nat) (a0 : Sl) (a1 : Int) (h : H) : Option ((Sl) × H) :=
  (asS (subs 1 (Value.slice a0.a a0.n a0.c) none (some (cond (decide (a1 < (Int.ofNat a0.n))) a1 (Int.ofNat a0.n))))).bind fun s1 =>
    (asS2 (apv 5 1 1 (Value.slice (some ⟨h.next, 0, none⟩) 0 0) (Value.slice s1.a s1.n s1.c) (newR h 5 1 []))).bind fun q2 =>
    some (q2.1, q2.2)
noncomputable def corbelhand_Few.T (k : Nat) : Tbl := tblOf []
noncomputable def corbelhand_Few.an (k : Nat) (p : Nat) : Option Ann := none
noncomputable def corbelhand_Few.body : Code := (Try.f20.body).getD .skip
set_option maxRecDepth 100000 in
theorem corbelhand_Few.TS {C : FuncId → Bool} {X : CallF} (hX : XOk C X) (k : Nat) : TblS Try.prog C X (corbelhand_Few.T k) := by
  refine tblOf_sound ?_
  intro e he
  exact absurd he List.not_mem_nil
set_option maxRecDepth 100000 in
theorem corbelhand_Few.eq (k : Nat) (a : RT [.sl, (.int .i64)]) (h : H) : (fun a h => corbelhand_Few.f k (a.1) (a.2) h) a h = kfun Try.prog (corbelhand_Few.T k) (corbelhand_Few.an k) (RT [.sl] × H) Try.f20 (encL [.sl, (.int .i64)] a) h (fun vs h' => (decL [.sl] vs).bind fun x => some (x, h')) := by kernel_rfl
set_option maxRecDepth 100000 in
theorem corbelhand_Few.told {C : FuncId → Bool} {X : CallF} (hX : XOk C X) (k : Nat) : Den.Told Try.prog C X 20 [.sl, (.int .i64)] [.sl] (fun a h => corbelhand_Few.f k (a.1) (a.2) h) :=
  told_of fun a h q e => fn_of (c := corbelhand_Few.body) (corbelhand_Few.TS hX k) Try.func20 (by kernel_rfl) (hX.no 20 _ h (by decide))
    (by
      have e : need (corbelhand_Few.an k) corbelhand_Few.body 1 = [] := by kernel_rfl
      rw [e]; intro q hq; cases hq)
    ((corbelhand_Few.eq k a h).symm.trans e)
/-! ### corbel/corbellaw23.HandUnknown -/
noncomputable def corbellaw23_HandUnknown.f (k : Nat) (a0 : Int) (a1 : Sl) (a2 : Int) (a3 : Int) (a4 : Int) (h : H) : Option ((Bool) × H) :=
  (hand_New.f k h).bind fun q1 =>
    (cond (!true) (some (true, q1.2))
      ((asB (binO1 Try.prog .eql 22 (Value.pointer q1.1) (Value.pointer none))).bind fun b2 =>
    some (b2, q1.2))).bind fun g3 =>
    cond g3.1
      (some (false, g3.2))
      ((corbelhand_Pick.f k a0 (2147483648 : Int) g3.2).bind fun q4 =>
    (corbellaw23_two.f k (newR q4.2 5 1 [(Value.int .u8 (0 : Int)), (Value.int .u8 (0 : Int)), (Value.int .u8 (0 : Int)), (Value.int .u8 (1 : Int))])).bind fun q5 =>
    (hand_Hand_Feed.f k q1.1 (⟨(some ⟨q4.2.next, 0, none⟩), 4, 4⟩ : Sl) q5.1 q5.2).bind fun q6 =>
    (corbelhand_Few.f k a1 (4000 : Int) q6.2).bind fun q7 =>
    (corbellaw23_option.f k (wrapA .i64 ((8 : Int) + q4.1)) q7.1 q7.2).bind fun q8 =>
    (corbellaw23_two.f k q8.2).bind fun q9 =>
    (hand_Hand_Feed.f k q1.1 q8.1 q9.1 q9.2).bind fun q10 =>
    (asT (txt q10.2 (Value.slice q10.1.1.a q10.1.1.n q10.1.1.c))).bind fun s11 =>
    (corbelref7_Big.f k (wrapA .i64 ((8 : Int) + q4.1)) (4 : Int) q10.2).bind fun q12 =>
    (asT (txt q12.2 (Value.slice q12.1.a q12.1.n q12.1.c))).bind fun s13 =>
    (asT (strA .add (⟨#[0, 3, 232, 137, 4, 85, 101, 169]⟩ : ByteArray) s13)).bind fun s14 =>
    (asT (strA .add s14 (⟨#[128, 0, 0, 1, 0, 0, 0, 0]⟩ : ByteArray))).bind fun s15 =>
    (cond (!(s11.toList == s15.toList)) (some (true, q12.2, [], []))
      (some (decide ((Int.ofNat q10.1.2.n) > (0 : Int)), q12.2, [], [])) : Option (Bool × H × LEs × EFs)).bind fun g16 =>
    (cond g16.1 (some (true, g16.2.1, [], []))
      ((hand_Hand_Ended.f k q1.1 g16.2.1).bind fun q17 =>
    some (q17.1, q17.2, [], [])) : Option (Bool × H × LEs × EFs)).bind fun g18 =>
    cond (dynL [(0, 3), (1, 3)] ((([(0, none)] ++ [(1, (blkOf (some (Value.slice q10.1.1.a q10.1.1.n q10.1.1.c))))]) ++ g16.2.2.1) ++ g18.2.2.1) (([(3, q10.2, q12.2)] ++ g16.2.2.2) ++ g18.2.2.2)) (cond g18.1
      (some (false, g18.2.1))
      ((corbellaw23_option.f k (3 : Int) (⟨none, 0, 0⟩ : Sl) g18.2.1).bind fun q19 =>
    (cond (a3 == (0 : Int))
      ((asS (subs 1 (Value.slice q19.1.a q19.1.n q19.1.c) (some (12 : Int)) none)).bind fun s20 =>
    (corbelhand_Pick.f k a2 (2147483648 : Int) q19.2).bind fun q21 =>
    (corbelref7_Big.f k (wrapA .i64 ((4097 : Int) + q21.1)) (4 : Int) q21.2).bind fun q22 =>
    (asI2 .i64 (cpy 1 (Value.slice s20.a s20.n s20.c) (Value.slice q22.1.a q22.1.n q22.1.c) q22.2)).bind fun q23 =>
    some ((), q23.2))
      ((corbelhand_Pick.f k a4 (8 : Int) q19.2).bind fun q24 =>
    (asP (ixs 1 q19.1.a q19.1.n q24.1)).bind fun p25 =>
    (asI .u8 (ldc q24.2 p25)).bind fun n26 =>
    (asI .u8 (intA .xor .u8 n26 a3)).bind fun n27 =>
    (asP (ixs 1 q19.1.a q19.1.n q24.1)).bind fun p28 =>
    (stv 1 q24.2 p28 [(Value.int .u8 n27)]).bind fun q29 =>
    some ((), q29.2)) : Option ((Unit) × H)).bind fun j30 =>
    (corbellaw23_option.f k (2 : Int) (⟨none, 0, 0⟩ : Sl) j30.2).bind fun q31 =>
    (asS2 (apv 5 1 1 (Value.slice q19.1.a q19.1.n q19.1.c) (Value.slice q31.1.a q31.1.n q31.1.c) q31.2)).bind fun q32 =>
    (corbellaw23_two.f k q32.2).bind fun q33 =>
    (hand_Hand_Feed.f k q1.1 q32.1 q33.1 q33.2).bind fun q34 =>
    (hand_Hand_Chosen.f k q1.1 q34.2).bind fun q35 =>
    (corbellaw23_option.f k (3 : Int) (⟨none, 0, 0⟩ : Sl) q35.2).bind fun q36 =>
    (corbellaw23_two.f k q36.2).bind fun q37 =>
    (hand_Hand_Feed.f k q1.1 q36.1 q37.1 q37.2).bind fun q38 =>
    (cond ((Int.ofNat q34.1.1.n) == (0 : Int)) ((hand_Hand_Ended.f k q1.1 q38.2).bind fun q39 =>
    some (q39.1, q39.2, [], []))
      (some (false, q38.2, [], [])) : Option (Bool × H × LEs × EFs)).bind fun g40 =>
    (cond g40.1 (some (!q35.1.2, g40.2.1, [], []))
      (some (false, g40.2.1, [], [])) : Option (Bool × H × LEs × EFs)).bind fun g41 =>
    (cond g41.1 (some ((Int.ofNat q38.1.1.n) == (0 : Int), g41.2.1, [], []))
      (some (false, g41.2.1, [], [])) : Option (Bool × H × LEs × EFs)).bind fun g42 =>
    (cond g42.1 ((asT (txt g42.2.1 (Value.slice q38.1.2.a q38.1.2.n q38.1.2.c))).bind fun s43 =>
    (corbellaw23_option.f k (3 : Int) (⟨none, 0, 0⟩ : Sl) g42.2.1).bind fun q44 =>
    (asT (txt q44.2 (Value.slice q44.1.a q44.1.n q44.1.c))).bind fun s45 =>
    some (s43.toList == s45.toList, q44.2, ([(17, none)] ++ [(18, (blkOf (some (Value.slice q38.1.2.a q38.1.2.n q38.1.2.c))))]), [(19, g42.2.1, q44.2)]))
      (some (false, g42.2.1, [], [])) : Option (Bool × H × LEs × EFs)).bind fun g46 =>
    cond (dynL [(17, 19), (18, 19)] (((g40.2.2.1 ++ g41.2.2.1) ++ g42.2.2.1) ++ g46.2.2.1) (((g40.2.2.2 ++ g41.2.2.2) ++ g42.2.2.2) ++ g46.2.2.2)) (some (g46.1, g46.2.1)) none)) none)
noncomputable def corbellaw23_HandUnknown.T (k : Nat) : Tbl := tblOf [⟨7, anyArgs, wr [] [.ptr] (fun a h => hand_New.f k h)⟩,
  ⟨8, anyArgs, knownW⟩,
  ⟨16, anyArgs, wr [(.int .i64), (.int .i64)] [(.int .i64)] (fun a h => corbelhand_Pick.f k (a.1) (a.2) h)⟩,
  ⟨10, anyArgs, wr [] [.sl] (fun a h => corbellaw23_two.f k h)⟩,
  ⟨9, anyArgs, wr [.ptr, .sl, .sl] [.sl, .sl] (fun a h => hand_Hand_Feed.f k (a.1) (a.2.1) (a.2.2) h)⟩,
  ⟨20, anyArgs, wr [.sl, (.int .i64)] [.sl] (fun a h => corbelhand_Few.f k (a.1) (a.2) h)⟩,
  ⟨11, anyArgs, wr [(.int .i64), .sl] [.sl] (fun a h => corbellaw23_option.f k (a.1) (a.2) h)⟩,
  ⟨17, anyArgs, wr [(.int .i64), (.int .i64)] [.sl] (fun a h => corbelref7_Big.f k (a.1) (a.2) h)⟩,
  ⟨13, anyArgs, wr [.ptr] [.bool] (fun a h => hand_Hand_Ended.f k a h)⟩,
  ⟨12, anyArgs, wr [.ptr] [.str, .bool] (fun a h => hand_Hand_Chosen.f k a h)⟩]
noncomputable def corbellaw23_HandUnknown.an (k : Nat) (p : Nat) : Option Ann := cond (Nat.beq p 4093) (some (.join [11, 15] none []))
  (none)
noncomputable def corbellaw23_HandUnknown.body : Code := (Try.f6.body).getD .skip
set_option maxRecDepth 100000 in
theorem corbellaw23_HandUnknown.TS {C : FuncId → Bool} {X : CallF} (hX : XOk C X) (hK8 : KOk X 8) (k : Nat) : TblS Try.prog C X (corbellaw23_HandUnknown.T k) := by
  refine tblOf_sound ?_
  intro e he
  rcases List.mem_cons.1 he with rfl | he
  · exact wr_told (hand_New.told hX k)
  rcases List.mem_cons.1 he with rfl | he
  · exact knownW_told hK8
  rcases List.mem_cons.1 he with rfl | he
  · exact wr_told (corbelhand_Pick.told hX k)
  rcases List.mem_cons.1 he with rfl | he
  · exact wr_told (corbellaw23_two.told hX k)
  rcases List.mem_cons.1 he with rfl | he
  · exact wr_told (hand_Hand_Feed.told hX k)
  rcases List.mem_cons.1 he with rfl | he
  · exact wr_told (corbelhand_Few.told hX k)
  rcases List.mem_cons.1 he with rfl | he
  · exact wr_told (corbellaw23_option.told hX k)
  rcases List.mem_cons.1 he with rfl | he
  · exact wr_told (corbelref7_Big.told hX k)
  rcases List.mem_cons.1 he with rfl | he
  · exact wr_told (hand_Hand_Ended.told hX k)
  rcases List.mem_cons.1 he with rfl | he
  · exact wr_told (hand_Hand_Chosen.told hX k)
  exact absurd he List.not_mem_nil
set_option maxRecDepth 100000 in
theorem corbellaw23_HandUnknown.eq (k : Nat) (a : RT [(.int .i64), .sl, (.int .i64), (.int .u8), (.int .i64)]) (h : H) : (fun a h => corbellaw23_HandUnknown.f k (a.1) (a.2.1) (a.2.2.1) (a.2.2.2.1) (a.2.2.2.2) h) a h = kfun Try.prog (corbellaw23_HandUnknown.T k) (corbellaw23_HandUnknown.an k) (RT [.bool] × H) Try.f6 (encL [(.int .i64), .sl, (.int .i64), (.int .u8), (.int .i64)] a) h (fun vs h' => (decL [.bool] vs).bind fun x => some (x, h')) := by kernel_rfl
set_option maxRecDepth 100000 in
theorem corbellaw23_HandUnknown.told {C : FuncId → Bool} {X : CallF} (hX : XOk C X) (hK8 : KOk X 8) (k : Nat) : Den.Told Try.prog C X 6 [(.int .i64), .sl, (.int .i64), (.int .u8), (.int .i64)] [.bool] (fun a h => corbellaw23_HandUnknown.f k (a.1) (a.2.1) (a.2.2.1) (a.2.2.2.1) (a.2.2.2.2) h) :=
  told_of fun a h q e => fn_of (c := corbellaw23_HandUnknown.body) (corbellaw23_HandUnknown.TS hX hK8 k) Try.func6 (by kernel_rfl) (hX.no 6 _ h (by decide))
    (by
      have e : need (corbellaw23_HandUnknown.an k) corbellaw23_HandUnknown.body 1 = [] := by kernel_rfl
      rw [e]; intro q hq; cases hq)
    ((corbellaw23_HandUnknown.eq k a h).symm.trans e)
end Go.Proofs.Ytlibnmhicnnldaa.Fwd
