/- Forward runs of functions of the program, printed by a program of this session: each function on plain values and memory, and that the code comes to it. No condition. -/
import Derived.Test.YthpkhegoamhgeaaDenZ
import Derived.KernelRfl
namespace Go.Proofs.Ythpkhegoamhgeaa.Fwd
open Go Den
set_option linter.unusedVariables false
/-! ### corbel/corbelhand.Pick -/
noncomputable def corbelhand_Pick.f (k : Nat) (a0 : Int) (a1 : Int) (h : H) : Option ((Int) × H) :=
  (asI .i64 (intA .rem .i64 a0 a1)).bind fun n1 =>
    (cond (decide (n1 < (0 : Int)))
      (some (wrapA .i64 (n1 + a1), h))
      (some (n1, h)) : Option ((Int) × H)).bind fun j2 =>
    some (j2.1, j2.2)
noncomputable def corbelhand_Pick.T (k : Nat) : Tbl := tblOf []
noncomputable def corbelhand_Pick.an (k : Nat) (p : Nat) : Option Ann := cond (Nat.beq p 29) (some (.join [] none [(0, (.int .i64))]))
  (none)
noncomputable def corbelhand_Pick.body : Code := (Try.f14.body).getD .skip
set_option maxRecDepth 100000 in
theorem corbelhand_Pick.TS {C : FuncId → Bool} {X : CallF} (hX : XOk C X) (k : Nat) : TblS Try.prog C X (corbelhand_Pick.T k) := by
  refine tblOf_sound ?_
  intro e he
  exact absurd he List.not_mem_nil
set_option maxRecDepth 100000 in
theorem corbelhand_Pick.eq (k : Nat) (a : RT [(.int .i64), (.int .i64)]) (h : H) : (fun a h => corbelhand_Pick.f k (a.1) (a.2) h) a h = kfun Try.prog (corbelhand_Pick.T k) (corbelhand_Pick.an k) (RT [(.int .i64)] × H) Try.f14 (encL [(.int .i64), (.int .i64)] a) h (fun vs h' => (decL [(.int .i64)] vs).bind fun x => some (x, h')) := by kernel_rfl
set_option maxRecDepth 100000 in
theorem corbelhand_Pick.told {C : FuncId → Bool} {X : CallF} (hX : XOk C X) (k : Nat) : Den.Told Try.prog C X 14 [(.int .i64), (.int .i64)] [(.int .i64)] (fun a h => corbelhand_Pick.f k (a.1) (a.2) h) :=
  told_of fun a h q e => fn_of (c := corbelhand_Pick.body) (corbelhand_Pick.TS hX k) Try.func14 (by kernel_rfl) (hX.no 14 _ h (by decide))
    (by
      have e : need (corbelhand_Pick.an k) corbelhand_Pick.body 1 = [] := by kernel_rfl
      rw [e]; intro q hq; cases hq)
    ((corbelhand_Pick.eq k a h).symm.trans e)
/-! ### corbel/corbelhand.Bytes -/
noncomputable def corbelhand_Bytes.l0 (k : Nat) (n : Nat) : Int → Sl → Int → Int → H → Option ((Unit) × H) :=
  Nat.rec (motive := fun _ => Int → Sl → Int → Int → H → Option ((Unit) × H)) (fun _ _ _ _ _ => none) (fun _ ih x3 x4 x5 x6 h7 => cond (decide (x6 < x3))
      ((asP (ixs 1 x4.a x4.n x6)).bind fun p8 =>
    (stv 1 h7 p8 [(Value.int .u8 (wrapA .u8 ((wrapA .u64 ((wrapA .u64 (x5 * (6364136223846793005 : Int))) + (1442695040888963407 : Int))).fdiv (2 ^ 56))))]).bind fun q9 =>
    ih x3 x4 (wrapA .u64 ((wrapA .u64 (x5 * (6364136223846793005 : Int))) + (1442695040888963407 : Int))) (wrapA .i64 (x6 + (1 : Int))) q9.2)
      (some ((), h7))) n
theorem corbelhand_Bytes.l0_zero (k : Nat) (x3 : Int) (x4 : Sl) (x5 : Int) (x6 : Int) (h7 : H) : corbelhand_Bytes.l0 k 0 x3 x4 x5 x6 h7 = none := rfl
theorem corbelhand_Bytes.l0_succ (k n : Nat) (x3 : Int) (x4 : Sl) (x5 : Int) (x6 : Int) (h7 : H) : corbelhand_Bytes.l0 k (n + 1) x3 x4 x5 x6 h7 = (cond (decide (x6 < x3))
      ((asP (ixs 1 x4.a x4.n x6)).bind fun p8 =>
    (stv 1 h7 p8 [(Value.int .u8 (wrapA .u8 ((wrapA .u64 ((wrapA .u64 (x5 * (6364136223846793005 : Int))) + (1442695040888963407 : Int))).fdiv (2 ^ 56))))]).bind fun q9 =>
    corbelhand_Bytes.l0 k n x3 x4 (wrapA .u64 ((wrapA .u64 (x5 * (6364136223846793005 : Int))) + (1442695040888963407 : Int))) (wrapA .i64 (x6 + (1 : Int))) q9.2)
      (some ((), h7))) := rfl
noncomputable def corbelhand_Bytes.f (k : Nat) (a0 : Int) (a1 : Int) (h : H) : Option ((Sl) × H) :=
  (asS2 (mkz 5 1 1 [(Value.int .u8 (0 : Int))] a1 a1 h)).bind fun q1 =>
    (corbelhand_Pick.f k a0 (7 : Int) q1.2).bind fun q2 =>
    cond (q2.1 == (6 : Int))
      (some (q1.1, q2.2))
      ((corbelhand_Bytes.l0 k k a1 q1.1 (wrapA .u64 ((wrapA .u64 ((wrapA .u64 a0) * (2654435761 : Int))) + (12345 : Int))) (0 : Int) q2.2).bind fun w10 =>
    some (q1.1, w10.2))
noncomputable def corbelhand_Bytes.T (k : Nat) : Tbl := tblOf [⟨14, anyArgs, wr [(.int .i64), (.int .i64)] [(.int .i64)] (fun a h => corbelhand_Pick.f k (a.1) (a.2) h)⟩]
noncomputable def corbelhand_Bytes.an (k : Nat) (p : Nat) : Option Ann := cond (Nat.beq p 250) (some (.pass [5] (lrun [(1, (.int .i64)), (5, .sl), (6, (.int .u64)), (7, (.int .i64))] none [] 0 (fun a h => corbelhand_Bytes.l0 k k (a.1) (a.2.1) (a.2.2.1) (a.2.2.2) h))))
  (none)
noncomputable def corbelhand_Bytes.body : Code := (Try.f15.body).getD .skip
noncomputable def corbelhand_Bytes.c250 : Code := cat corbelhand_Bytes.body [1, 1, 1, 1, 0, 1, 0, 0]
set_option maxRecDepth 100000 in
theorem corbelhand_Bytes.TS {C : FuncId → Bool} {X : CallF} (hX : XOk C X) (k : Nat) : TblS Try.prog C X (corbelhand_Bytes.T k) := by
  refine tblOf_sound ?_
  intro e he
  rcases List.mem_cons.1 he with rfl | he
  · exact wr_told (corbelhand_Pick.told hX k)
  exact absurd he List.not_mem_nil
set_option maxRecDepth 100000 in
theorem corbelhand_Bytes.l0_pass {C : FuncId → Bool} {X : CallF} (hX : XOk C X) (k n : Nat) : PassS Try.prog C X 33 (.loop corbelhand_Bytes.c250) (lrun [(1, (.int .i64)), (5, .sl), (6, (.int .u64)), (7, (.int .i64))] none [] 0 (fun a h => corbelhand_Bytes.l0 k n (a.1) (a.2.1) (a.2.2.1) (a.2.2.2) h)) :=
  loop_pass (ins := [(1, (.int .i64)), (5, .sl), (6, (.int .u64)), (7, (.int .i64))]) (rets := none) (outs := []) (id := 0) (tbl := corbelhand_Bytes.T k) (an := corbelhand_Bytes.an k) (pb := 500) (corbelhand_Bytes.TS hX k) (fun n => (fun a h => corbelhand_Bytes.l0 k n (a.1) (a.2.1) (a.2.2.1) (a.2.2.2) h)) (fun a h => rfl) (fun n a h => by kernel_rfl)
    (by
      have e : need (corbelhand_Bytes.an k) corbelhand_Bytes.c250 500 = [] := by kernel_rfl
      rw [e]; intro q hq; cases hq) n
set_option maxRecDepth 100000 in
theorem corbelhand_Bytes.eq (k : Nat) (a : RT [(.int .i64), (.int .i64)]) (h : H) : (fun a h => corbelhand_Bytes.f k (a.1) (a.2) h) a h = kfun Try.prog (corbelhand_Bytes.T k) (corbelhand_Bytes.an k) (RT [.sl] × H) Try.f15 (encL [(.int .i64), (.int .i64)] a) h (fun vs h' => (decL [.sl] vs).bind fun x => some (x, h')) := by kernel_rfl
set_option maxRecDepth 100000 in
theorem corbelhand_Bytes.told {C : FuncId → Bool} {X : CallF} (hX : XOk C X) (k : Nat) : Den.Told Try.prog C X 15 [(.int .i64), (.int .i64)] [.sl] (fun a h => corbelhand_Bytes.f k (a.1) (a.2) h) :=
  told_of fun a h q e => fn_of (c := corbelhand_Bytes.body) (corbelhand_Bytes.TS hX k) Try.func15 (by kernel_rfl) (hX.no 15 _ h (by decide))
    (by
      have e : need (corbelhand_Bytes.an k) corbelhand_Bytes.body 1 = [(Code.loop corbelhand_Bytes.c250, lrun [(1, (.int .i64)), (5, .sl), (6, (.int .u64)), (7, (.int .i64))] none [] 0 (fun a h => corbelhand_Bytes.l0 k k (a.1) (a.2.1) (a.2.2.1) (a.2.2.2) h))] := by kernel_rfl
      rw [e]; intro q hq
      rcases List.mem_cons.1 hq with rfl | hq
      · exact corbelhand_Bytes.l0_pass hX k k
      cases hq)
    ((corbelhand_Bytes.eq k a h).symm.trans e)
/-! ### corbel/corbellaw24.of -/
noncomputable def corbellaw24_of.f (k : Nat) (a0 : (Int × Int × Int × Int × Int × Int × Sl)) (h : H) : Option (((Int × Int × Int × Int × Int × Sl)) × H) :=
  (asI .i64 (ldc (newR (newR h 32 7 [(Value.int .i64 a0.1), (Value.int .i64 a0.2.1), (Value.int .i64 a0.2.2.1), (Value.int .i64 a0.2.2.2.1), (Value.int .u64 a0.2.2.2.2.1), (Value.int .u64 a0.2.2.2.2.2.1), (Value.slice a0.2.2.2.2.2.2.a a0.2.2.2.2.2.2.n a0.2.2.2.2.2.2.c)]) 29 6 [(Value.int .i64 (0 : Int)), (Value.int .i64 (0 : Int)), (Value.int .u64 (0 : Int)), (Value.int .u64 (0 : Int)), (Value.int .i64 (0 : Int)), (Value.slice none 0 0)]) (some ⟨h.next, 0, none⟩))).bind fun n1 =>
    (corbelhand_Pick.f k n1 (8 : Int) (newR (newR h 32 7 [(Value.int .i64 a0.1), (Value.int .i64 a0.2.1), (Value.int .i64 a0.2.2.1), (Value.int .i64 a0.2.2.2.1), (Value.int .u64 a0.2.2.2.2.1), (Value.int .u64 a0.2.2.2.2.2.1), (Value.slice a0.2.2.2.2.2.2.a a0.2.2.2.2.2.2.n a0.2.2.2.2.2.2.c)]) 29 6 [(Value.int .i64 (0 : Int)), (Value.int .i64 (0 : Int)), (Value.int .u64 (0 : Int)), (Value.int .u64 (0 : Int)), (Value.int .i64 (0 : Int)), (Value.slice none 0 0)])).bind fun q2 =>
    (asI .i64 (ldc q2.2 (some ⟨h.next, 1, none⟩))).bind fun n3 =>
    (corbelhand_Pick.f k n3 (3 : Int) q2.2).bind fun q4 =>
    (asI .u64 (ldc q4.2 (some ⟨h.next, 4, none⟩))).bind fun n5 =>
    (asI .u64 (ldc q4.2 (some ⟨h.next, 5, none⟩))).bind fun n6 =>
    (asI .i64 (ldc q4.2 (some ⟨h.next, 2, none⟩))).bind fun n7 =>
    (corbelhand_Pick.f k n7 (200 : Int) q4.2).bind fun q8 =>
    (stv 6 (newR q8.2 29 6 [(Value.int .i64 (0 : Int)), (Value.int .i64 (0 : Int)), (Value.int .u64 (0 : Int)), (Value.int .u64 (0 : Int)), (Value.int .i64 (0 : Int)), (Value.slice none 0 0)]) (some ⟨q8.2.next, 0, none⟩) [(Value.int .i64 q4.1), (Value.int .i64 q2.1), (Value.int .u64 n5), (Value.int .u64 (n6.tmod (4096 : Int))), (Value.int .i64 q8.1), (Value.slice none 0 0)]).bind fun q9 =>
    cond (same1 (newR (newR h 32 7 [(Value.int .i64 a0.1), (Value.int .i64 a0.2.1), (Value.int .i64 a0.2.2.1), (Value.int .i64 a0.2.2.2.1), (Value.int .u64 a0.2.2.2.2.1), (Value.int .u64 a0.2.2.2.2.2.1), (Value.slice a0.2.2.2.2.2.2.a a0.2.2.2.2.2.2.n a0.2.2.2.2.2.2.c)]) 29 6 [(Value.int .i64 (0 : Int)), (Value.int .i64 (0 : Int)), (Value.int .u64 (0 : Int)), (Value.int .u64 (0 : Int)), (Value.int .i64 (0 : Int)), (Value.slice none 0 0)]) q2.2 (some (Value.pointer (some ⟨h.next, 1, none⟩))) && (same1 (newR (newR h 32 7 [(Value.int .i64 a0.1), (Value.int .i64 a0.2.1), (Value.int .i64 a0.2.2.1), (Value.int .i64 a0.2.2.2.1), (Value.int .u64 a0.2.2.2.2.1), (Value.int .u64 a0.2.2.2.2.2.1), (Value.slice a0.2.2.2.2.2.2.a a0.2.2.2.2.2.2.n a0.2.2.2.2.2.2.c)]) 29 6 [(Value.int .i64 (0 : Int)), (Value.int .i64 (0 : Int)), (Value.int .u64 (0 : Int)), (Value.int .u64 (0 : Int)), (Value.int .i64 (0 : Int)), (Value.slice none 0 0)]) q2.2 (some (Value.pointer (some ⟨h.next, 4, none⟩))) && (same1 q2.2 q4.2 (some (Value.pointer (some ⟨h.next, 4, none⟩))) && (same1 q4.2 q8.2 (some (Value.pointer (some ⟨h.next, 4, none⟩))) && (same1 (newR (newR h 32 7 [(Value.int .i64 a0.1), (Value.int .i64 a0.2.1), (Value.int .i64 a0.2.2.1), (Value.int .i64 a0.2.2.2.1), (Value.int .u64 a0.2.2.2.2.1), (Value.int .u64 a0.2.2.2.2.2.1), (Value.slice a0.2.2.2.2.2.2.a a0.2.2.2.2.2.2.n a0.2.2.2.2.2.2.c)]) 29 6 [(Value.int .i64 (0 : Int)), (Value.int .i64 (0 : Int)), (Value.int .u64 (0 : Int)), (Value.int .u64 (0 : Int)), (Value.int .i64 (0 : Int)), (Value.slice none 0 0)]) q2.2 (some (Value.pointer (some ⟨h.next, 5, none⟩))) && (same1 q2.2 q4.2 (some (Value.pointer (some ⟨h.next, 5, none⟩))) && (same1 q4.2 q8.2 (some (Value.pointer (some ⟨h.next, 5, none⟩))) && (same1 (newR (newR h 32 7 [(Value.int .i64 a0.1), (Value.int .i64 a0.2.1), (Value.int .i64 a0.2.2.1), (Value.int .i64 a0.2.2.2.1), (Value.int .u64 a0.2.2.2.2.1), (Value.int .u64 a0.2.2.2.2.2.1), (Value.slice a0.2.2.2.2.2.2.a a0.2.2.2.2.2.2.n a0.2.2.2.2.2.2.c)]) 29 6 [(Value.int .i64 (0 : Int)), (Value.int .i64 (0 : Int)), (Value.int .u64 (0 : Int)), (Value.int .u64 (0 : Int)), (Value.int .i64 (0 : Int)), (Value.slice none 0 0)]) q2.2 (some (Value.pointer (some ⟨h.next, 2, none⟩))) && (same1 q2.2 q4.2 (some (Value.pointer (some ⟨h.next, 2, none⟩))) && (true)))))))))) ((asI .i64 (ldc q9.2 (some ⟨h.next, 3, none⟩))).bind fun n10 =>
    (cond (decide ((n10.tmod (3 : Int)) > (0 : Int)))
      ((asI .u64 (ldc q9.2 (some ⟨q8.2.next, 3, none⟩))).bind fun n11 =>
    (stv 1 q9.2 (some ⟨q8.2.next, 3, none⟩) [(Value.int .u64 (wrapA .u64 ((wrapA .u64 (n11.tdiv (16 : Int))) * (16 : Int))))]).bind fun q12 =>
    (asI .i64 (ldc q12.2 (some ⟨q8.2.next, 4, none⟩))).bind fun n13 =>
    (stv 1 q12.2 (some ⟨q8.2.next, 4, none⟩) [(Value.int .i64 (wrapA .i64 ((wrapA .i64 (n13.tdiv (16 : Int))) * (16 : Int))))]).bind fun q14 =>
    some ((), q14.2))
      (some ((), q9.2)) : Option ((Unit) × H)).bind fun j15 =>
    (asI .i64 (ldc j15.2 (some ⟨h.next, 3, none⟩))).bind fun n16 =>
    (corbelhand_Pick.f k n16 (20 : Int) j15.2).bind fun q17 =>
    (cond (q17.1 == (14 : Int))
      ((asI .i64 (ldc q17.2 (some ⟨h.next, 0, none⟩))).bind fun n18 =>
    (stv 1 q17.2 (some ⟨q8.2.next, 1, none⟩) [(Value.int .i64 n18)]).bind fun q19 =>
    some ((), q19.2))
      ((cond (q17.1 == (15 : Int))
      ((asI .i64 (ldc q17.2 (some ⟨h.next, 1, none⟩))).bind fun n20 =>
    (stv 1 q17.2 (some ⟨q8.2.next, 0, none⟩) [(Value.int .i64 n20)]).bind fun q21 =>
    some ((), q21.2))
      ((cond (q17.1 == (16 : Int))
      ((asI .u64 (ldc q17.2 (some ⟨h.next, 5, none⟩))).bind fun n22 =>
    (stv 1 q17.2 (some ⟨q8.2.next, 3, none⟩) [(Value.int .u64 n22)]).bind fun q23 =>
    some ((), q23.2))
      ((cond (q17.1 == (17 : Int))
      ((asI .i64 (ldc q17.2 (some ⟨h.next, 2, none⟩))).bind fun n24 =>
    (stv 1 q17.2 (some ⟨q8.2.next, 4, none⟩) [(Value.int .i64 n24)]).bind fun q25 =>
    some ((), q25.2))
      ((cond (q17.1 == (18 : Int))
      ((asI .i64 (ldc q17.2 (some ⟨h.next, 2, none⟩))).bind fun n26 =>
    (corbelhand_Pick.f k n26 (40 : Int) q17.2).bind fun q27 =>
    (stv 1 q27.2 (some ⟨q8.2.next, 4, none⟩) [(Value.int .i64 (wrapA .i64 ((wrapA .i64 ((32768 : Int) + q27.1)) - (20 : Int))))]).bind fun q28 =>
    some ((), q28.2))
      (some ((), q17.2)) : Option ((Unit) × H)).bind fun j29 =>
    some ((), j29.2)) : Option ((Unit) × H)).bind fun j30 =>
    some ((), j30.2)) : Option ((Unit) × H)).bind fun j31 =>
    some ((), j31.2)) : Option ((Unit) × H)).bind fun j32 =>
    some ((), j32.2)) : Option ((Unit) × H)).bind fun j33 =>
    (asI .i64 (ldc j33.2 (some ⟨q8.2.next, 1, none⟩))).bind fun n34 =>
    (cond (n34 == (1 : Int))
      ((asI .i64 (ldc j33.2 (some ⟨h.next, 1, none⟩))).bind fun n35 =>
    (asI .i64 (ldc j33.2 (some ⟨q8.2.next, 4, none⟩))).bind fun n36 =>
    (corbelhand_Bytes.f k n35 (cond (decide ((cond (decide (n36 < (300 : Int))) n36 (300 : Int)) > (0 : Int))) (cond (decide (n36 < (300 : Int))) n36 (300 : Int)) (0 : Int)) j33.2).bind fun q37 =>
    (stv 1 q37.2 (some ⟨q8.2.next, 5, none⟩) [(Value.slice q37.1.a q37.1.n q37.1.c)]).bind fun q38 =>
    some ((), q38.2))
      (some ((), j33.2)) : Option ((Unit) × H)).bind fun j39 =>
    (asSt [(.int .i64), (.int .i64), (.int .u64), (.int .u64), (.int .i64), .sl] (lda 6 j39.2 (some ⟨q8.2.next, 0, none⟩))).bind fun s40 =>
    (stv 6 j39.2 (some ⟨(newR h 32 7 [(Value.int .i64 a0.1), (Value.int .i64 a0.2.1), (Value.int .i64 a0.2.2.1), (Value.int .i64 a0.2.2.2.1), (Value.int .u64 a0.2.2.2.2.1), (Value.int .u64 a0.2.2.2.2.2.1), (Value.slice a0.2.2.2.2.2.2.a a0.2.2.2.2.2.2.n a0.2.2.2.2.2.2.c)]).next, 0, none⟩) [(Value.int .i64 s40.1), (Value.int .i64 s40.2.1), (Value.int .u64 s40.2.2.1), (Value.int .u64 s40.2.2.2.1), (Value.int .i64 s40.2.2.2.2.1), (Value.slice s40.2.2.2.2.2.a s40.2.2.2.2.2.n s40.2.2.2.2.2.c)]).bind fun q41 =>
    (asSt [(.int .i64), (.int .i64), (.int .u64), (.int .u64), (.int .i64), .sl] (lda 6 q41.2 (some ⟨(newR h 32 7 [(Value.int .i64 a0.1), (Value.int .i64 a0.2.1), (Value.int .i64 a0.2.2.1), (Value.int .i64 a0.2.2.2.1), (Value.int .u64 a0.2.2.2.2.1), (Value.int .u64 a0.2.2.2.2.2.1), (Value.slice a0.2.2.2.2.2.2.a a0.2.2.2.2.2.2.n a0.2.2.2.2.2.2.c)]).next, 0, none⟩))).bind fun s42 =>
    some ((s42.1, s42.2.1, s42.2.2.1, s42.2.2.2.1, s42.2.2.2.2.1, s42.2.2.2.2.2), q41.2)) none
noncomputable def corbellaw24_of.T (k : Nat) : Tbl := tblOf [⟨14, anyArgs, wr [(.int .i64), (.int .i64)] [(.int .i64)] (fun a h => corbelhand_Pick.f k (a.1) (a.2) h)⟩,
  ⟨15, anyArgs, wr [(.int .i64), (.int .i64)] [.sl] (fun a h => corbelhand_Bytes.f k (a.1) (a.2) h)⟩]
noncomputable def corbellaw24_of.an (k : Nat) (p : Nat) : Option Ann := cond (Nat.beq p 125) (some (.join [2, 3] none []))
  (cond (Nat.beq p 245) (some (.join [1, 2, 3] none []))
  (cond (Nat.beq p 983) (some (.join [1, 2, 3] none []))
  (cond (Nat.beq p 3935) (some (.join [1, 2, 3] none []))
  (cond (Nat.beq p 15743) (some (.join [1, 2, 3] none []))
  (cond (Nat.beq p 62975) (some (.join [1, 2, 3] none []))
  (cond (Nat.beq p 29) (some (.join [1, 2, 3] none []))
  (none)))))))
noncomputable def corbellaw24_of.body : Code := (Try.f13.body).getD .skip
set_option maxRecDepth 100000 in
theorem corbellaw24_of.TS {C : FuncId → Bool} {X : CallF} (hX : XOk C X) (k : Nat) : TblS Try.prog C X (corbellaw24_of.T k) := by
  refine tblOf_sound ?_
  intro e he
  rcases List.mem_cons.1 he with rfl | he
  · exact wr_told (corbelhand_Pick.told hX k)
  rcases List.mem_cons.1 he with rfl | he
  · exact wr_told (corbelhand_Bytes.told hX k)
  exact absurd he List.not_mem_nil
set_option maxRecDepth 100000 in
theorem corbellaw24_of.eq (k : Nat) (a : RT [(.st [(.int .i64), (.int .i64), (.int .i64), (.int .i64), (.int .u64), (.int .u64), .sl])]) (h : H) : (fun a h => corbellaw24_of.f k a h) a h = kfun Try.prog (corbellaw24_of.T k) (corbellaw24_of.an k) (RT [(.st [(.int .i64), (.int .i64), (.int .u64), (.int .u64), (.int .i64), .sl])] × H) Try.f13 (encL [(.st [(.int .i64), (.int .i64), (.int .i64), (.int .i64), (.int .u64), (.int .u64), .sl])] a) h (fun vs h' => (decL [(.st [(.int .i64), (.int .i64), (.int .u64), (.int .u64), (.int .i64), .sl])] vs).bind fun x => some (x, h')) := by kernel_rfl
set_option maxRecDepth 100000 in
theorem corbellaw24_of.told {C : FuncId → Bool} {X : CallF} (hX : XOk C X) (k : Nat) : Den.Told Try.prog C X 13 [(.st [(.int .i64), (.int .i64), (.int .i64), (.int .i64), (.int .u64), (.int .u64), .sl])] [(.st [(.int .i64), (.int .i64), (.int .u64), (.int .u64), (.int .i64), .sl])] (fun a h => corbellaw24_of.f k a h) :=
  told_of fun a h q e => fn_of (c := corbellaw24_of.body) (corbellaw24_of.TS hX k) Try.func13 (by kernel_rfl) (hX.no 13 _ h (by decide))
    (by
      have e : need (corbellaw24_of.an k) corbellaw24_of.body 1 = [] := by kernel_rfl
      rw [e]; intro q hq; cases hq)
    ((corbellaw24_of.eq k a h).symm.trans e)
/-! ### corbel/ask.bytes -/
noncomputable def ask_bytes.l0 (k : Nat) (n : Nat) : Int → Sl → Int → H → Option ((Sl) × H) :=
  Nat.rec (motive := fun _ => Int → Sl → Int → H → Option ((Sl) × H)) (fun _ _ _ _ => none) (fun _ ih x1 x2 x3 h4 => cond (decide (x3 ≥ (0 : Int)))
      ((asI .u64 (binA Try.prog .shr 27 (Value.int .u64 x1) (Value.int .i64 (wrapA .i64 ((8 : Int) * x3))))).bind fun n5 =>
    (asS2 (apv 5 1 1 (Value.slice x2.a x2.n x2.c) (Value.slice (some ⟨h4.next, 0, none⟩) 1 1) (newR h4 5 1 [(Value.int .u8 (wrapA .u8 n5))]))).bind fun q6 =>
    ih x1 q6.1 (wrapA .i64 (x3 - (1 : Int))) q6.2)
      (some (x2, h4))) n
theorem ask_bytes.l0_zero (k : Nat) (x1 : Int) (x2 : Sl) (x3 : Int) (h4 : H) : ask_bytes.l0 k 0 x1 x2 x3 h4 = none := rfl
theorem ask_bytes.l0_succ (k n : Nat) (x1 : Int) (x2 : Sl) (x3 : Int) (h4 : H) : ask_bytes.l0 k (n + 1) x1 x2 x3 h4 = (cond (decide (x3 ≥ (0 : Int)))
      ((asI .u64 (binA Try.prog .shr 27 (Value.int .u64 x1) (Value.int .i64 (wrapA .i64 ((8 : Int) * x3))))).bind fun n5 =>
    (asS2 (apv 5 1 1 (Value.slice x2.a x2.n x2.c) (Value.slice (some ⟨h4.next, 0, none⟩) 1 1) (newR h4 5 1 [(Value.int .u8 (wrapA .u8 n5))]))).bind fun q6 =>
    ask_bytes.l0 k n x1 q6.1 (wrapA .i64 (x3 - (1 : Int))) q6.2)
      (some (x2, h4))) := rfl
noncomputable def ask_bytes.f (k : Nat) (a0 : Int) (a1 : Int) (h : H) : Option ((Sl) × H) :=
  (ask_bytes.l0 k k a0 (⟨none, 0, 0⟩ : Sl) (wrapA .i64 (a1 - (1 : Int))) h).bind fun w7 =>
    some (w7.1, w7.2)
noncomputable def ask_bytes.T (k : Nat) : Tbl := tblOf []
noncomputable def ask_bytes.an (k : Nat) (p : Nat) : Option Ann := cond (Nat.beq p 58) (some (.pass [] (lrun [(0, (.int .u64)), (5, .sl), (6, (.int .i64))] none [(5, .sl)] 0 (fun a h => ask_bytes.l0 k k (a.1) (a.2.1) (a.2.2) h))))
  (none)
noncomputable def ask_bytes.body : Code := (Try.f41.body).getD .skip
noncomputable def ask_bytes.c58 : Code := cat ask_bytes.body [1, 1, 0, 1, 0, 0]
set_option maxRecDepth 100000 in
theorem ask_bytes.TS {C : FuncId → Bool} {X : CallF} (hX : XOk C X) (k : Nat) : TblS Try.prog C X (ask_bytes.T k) := by
  refine tblOf_sound ?_
  intro e he
  exact absurd he List.not_mem_nil
set_option maxRecDepth 100000 in
theorem ask_bytes.l0_pass {C : FuncId → Bool} {X : CallF} (hX : XOk C X) (k n : Nat) : PassS Try.prog C X 22 (.loop ask_bytes.c58) (lrun [(0, (.int .u64)), (5, .sl), (6, (.int .i64))] none [(5, .sl)] 0 (fun a h => ask_bytes.l0 k n (a.1) (a.2.1) (a.2.2) h)) :=
  loop_pass (ins := [(0, (.int .u64)), (5, .sl), (6, (.int .i64))]) (rets := none) (outs := [(5, .sl)]) (id := 0) (tbl := ask_bytes.T k) (an := ask_bytes.an k) (pb := 116) (ask_bytes.TS hX k) (fun n => (fun a h => ask_bytes.l0 k n (a.1) (a.2.1) (a.2.2) h)) (fun a h => rfl) (fun n a h => by kernel_rfl)
    (by
      have e : need (ask_bytes.an k) ask_bytes.c58 116 = [] := by kernel_rfl
      rw [e]; intro q hq; cases hq) n
set_option maxRecDepth 100000 in
theorem ask_bytes.eq (k : Nat) (a : RT [(.int .u64), (.int .i64)]) (h : H) : (fun a h => ask_bytes.f k (a.1) (a.2) h) a h = kfun Try.prog (ask_bytes.T k) (ask_bytes.an k) (RT [.sl] × H) Try.f41 (encL [(.int .u64), (.int .i64)] a) h (fun vs h' => (decL [.sl] vs).bind fun x => some (x, h')) := by kernel_rfl
set_option maxRecDepth 100000 in
theorem ask_bytes.told {C : FuncId → Bool} {X : CallF} (hX : XOk C X) (k : Nat) : Den.Told Try.prog C X 41 [(.int .u64), (.int .i64)] [.sl] (fun a h => ask_bytes.f k (a.1) (a.2) h) :=
  told_of fun a h q e => fn_of (c := ask_bytes.body) (ask_bytes.TS hX k) Try.func41 (by kernel_rfl) (hX.no 41 _ h (by decide))
    (by
      have e : need (ask_bytes.an k) ask_bytes.body 1 = [(Code.loop ask_bytes.c58, lrun [(0, (.int .u64)), (5, .sl), (6, (.int .i64))] none [(5, .sl)] 0 (fun a h => ask_bytes.l0 k k (a.1) (a.2.1) (a.2.2) h))] := by kernel_rfl
      rw [e]; intro q hq
      rcases List.mem_cons.1 hq with rfl | hq
      · exact ask_bytes.l0_pass hX k k
      cases hq)
    ((ask_bytes.eq k a h).symm.trans e)
/-! ### slices.Grow[[]byte,byte] -/
noncomputable def slices_Grow_byte_byte.f (k : Nat) (a0 : Sl) (a1 : Int) (h : H) : Option ((Sl) × H) :=
  (cond (decide (a1 < (0 : Int)))
      (none)
      (some ((), h)) : Option ((Unit) × H)).bind fun j1 =>
    (asI2 .i64 (pv j1.2 (capV a0.a a0.c))).bind fun q2 =>
    (cond (decide ((wrapA .i64 (a1 - (wrapA .i64 (q2.1 - (Int.ofNat a0.n))))) > (0 : Int)))
      ((asI2 .i64 (pv q2.2 (capV a0.a a0.c))).bind fun q3 =>
    (asS (subs 1 (Value.slice a0.a a0.n a0.c) none (some q3.1))).bind fun s4 =>
    (asS2 (apz 5 1 1 [(Value.int .u8 (0 : Int))] (Value.slice s4.a s4.n s4.c) (wrapA .i64 (a1 - (wrapA .i64 (q2.1 - (Int.ofNat a0.n))))) q3.2)).bind fun q5 =>
    (asS (subs 1 (Value.slice q5.1.a q5.1.n q5.1.c) none (some (Int.ofNat a0.n)))).bind fun s6 =>
    some (s6, q5.2))
      (some (a0, q2.2)) : Option ((Sl) × H)).bind fun j7 =>
    some (j7.1, j7.2)
noncomputable def slices_Grow_byte_byte.T (k : Nat) : Tbl := tblOf []
noncomputable def slices_Grow_byte_byte.an (k : Nat) (p : Nat) : Option Ann := cond (Nat.beq p 59) (some (.join [] none [(0, .sl)]))
  (cond (Nat.beq p 13) (some (.join [0, 1] none []))
  (none))
noncomputable def slices_Grow_byte_byte.body : Code := (Try.f63.body).getD .skip
set_option maxRecDepth 100000 in
theorem slices_Grow_byte_byte.TS {C : FuncId → Bool} {X : CallF} (hX : XOk C X) (k : Nat) : TblS Try.prog C X (slices_Grow_byte_byte.T k) := by
  refine tblOf_sound ?_
  intro e he
  exact absurd he List.not_mem_nil
set_option maxRecDepth 100000 in
theorem slices_Grow_byte_byte.eq (k : Nat) (a : RT [.sl, (.int .i64)]) (h : H) : (fun a h => slices_Grow_byte_byte.f k (a.1) (a.2) h) a h = kfun Try.prog (slices_Grow_byte_byte.T k) (slices_Grow_byte_byte.an k) (RT [.sl] × H) Try.f63 (encL [.sl, (.int .i64)] a) h (fun vs h' => (decL [.sl] vs).bind fun x => some (x, h')) := by kernel_rfl
set_option maxRecDepth 100000 in
theorem slices_Grow_byte_byte.told {C : FuncId → Bool} {X : CallF} (hX : XOk C X) (k : Nat) : Den.Told Try.prog C X 63 [.sl, (.int .i64)] [.sl] (fun a h => slices_Grow_byte_byte.f k (a.1) (a.2) h) :=
  told_of fun a h q e => fn_of (c := slices_Grow_byte_byte.body) (slices_Grow_byte_byte.TS hX k) Try.func63 (by kernel_rfl) (hX.no 63 _ h (by decide))
    (by
      have e : need (slices_Grow_byte_byte.an k) slices_Grow_byte_byte.body 1 = [] := by kernel_rfl
      rw [e]; intro q hq; cases hq)
    ((slices_Grow_byte_byte.eq k a h).symm.trans e)
/-! ### slices.Concat[[]byte,byte] -/
noncomputable def slices_Concat_byte_byte.l1 (k : Nat) (n : Nat) : Sl → Int → Sl → Int → H → Option ((Sl) × H) :=
  Nat.rec (motive := fun _ => Sl → Int → Sl → Int → H → Option ((Sl) × H)) (fun _ _ _ _ _ => none) (fun _ ih x12 x13 x14 x15 h16 => cond (decide (x15 < x13))
      ((asP (ixs 1 x12.a x12.n x15)).bind fun p17 =>
    (asS (ldc h16 p17)).bind fun s18 =>
    (asS2 (apv 5 1 1 (Value.slice x14.a x14.n x14.c) (Value.slice s18.a s18.n s18.c) h16)).bind fun q19 =>
    ih x12 x13 q19.1 (wrapA .i64 (x15 + (1 : Int))) q19.2)
      (some (x14, h16))) n
theorem slices_Concat_byte_byte.l1_zero (k : Nat) (x12 : Sl) (x13 : Int) (x14 : Sl) (x15 : Int) (h16 : H) : slices_Concat_byte_byte.l1 k 0 x12 x13 x14 x15 h16 = none := rfl
theorem slices_Concat_byte_byte.l1_succ (k n : Nat) (x12 : Sl) (x13 : Int) (x14 : Sl) (x15 : Int) (h16 : H) : slices_Concat_byte_byte.l1 k (n + 1) x12 x13 x14 x15 h16 = (cond (decide (x15 < x13))
      ((asP (ixs 1 x12.a x12.n x15)).bind fun p17 =>
    (asS (ldc h16 p17)).bind fun s18 =>
    (asS2 (apv 5 1 1 (Value.slice x14.a x14.n x14.c) (Value.slice s18.a s18.n s18.c) h16)).bind fun q19 =>
    slices_Concat_byte_byte.l1 k n x12 x13 q19.1 (wrapA .i64 (x15 + (1 : Int))) q19.2)
      (some (x14, h16))) := rfl
noncomputable def slices_Concat_byte_byte.l0 (k : Nat) (n : Nat) : Sl → Sl → Int → Int → Int → H → Option ((Int) × H) :=
  Nat.rec (motive := fun _ => Sl → Sl → Int → Int → Int → H → Option ((Int) × H)) (fun _ _ _ _ _ _ => none) (fun _ ih x1 x2 x3 x4 x5 h6 => cond (decide (x5 < x3))
      ((asP (ixs 1 x2.a x2.n x5)).bind fun p7 =>
    (asS (ldc h6 p7)).bind fun s8 =>
    (cond (decide ((wrapA .i64 (x4 + (Int.ofNat s8.n))) < (0 : Int)))
      (none)
      (some ((), h6)) : Option ((Unit) × H)).bind fun j9 =>
    ih x1 x2 x3 (wrapA .i64 (x4 + (Int.ofNat s8.n))) (wrapA .i64 (x5 + (1 : Int))) j9.2)
      (some (x4, h6))) n
theorem slices_Concat_byte_byte.l0_zero (k : Nat) (x1 : Sl) (x2 : Sl) (x3 : Int) (x4 : Int) (x5 : Int) (h6 : H) : slices_Concat_byte_byte.l0 k 0 x1 x2 x3 x4 x5 h6 = none := rfl
theorem slices_Concat_byte_byte.l0_succ (k n : Nat) (x1 : Sl) (x2 : Sl) (x3 : Int) (x4 : Int) (x5 : Int) (h6 : H) : slices_Concat_byte_byte.l0 k (n + 1) x1 x2 x3 x4 x5 h6 = (cond (decide (x5 < x3))
      ((asP (ixs 1 x2.a x2.n x5)).bind fun p7 =>
    (asS (ldc h6 p7)).bind fun s8 =>
    (cond (decide ((wrapA .i64 (x4 + (Int.ofNat s8.n))) < (0 : Int)))
      (none)
      (some ((), h6)) : Option ((Unit) × H)).bind fun j9 =>
    slices_Concat_byte_byte.l0 k n x1 x2 x3 (wrapA .i64 (x4 + (Int.ofNat s8.n))) (wrapA .i64 (x5 + (1 : Int))) j9.2)
      (some (x4, h6))) := rfl
noncomputable def slices_Concat_byte_byte.f (k : Nat) (a0 : Sl) (h : H) : Option ((Sl) × H) :=
  (slices_Concat_byte_byte.l0 k k a0 a0 (Int.ofNat a0.n) (0 : Int) (0 : Int) h).bind fun w10 =>
    (slices_Grow_byte_byte.f k (⟨none, 0, 0⟩ : Sl) w10.1 w10.2).bind fun q11 =>
    (slices_Concat_byte_byte.l1 k k a0 (Int.ofNat a0.n) q11.1 (0 : Int) q11.2).bind fun w20 =>
    some (w20.1, w20.2)
noncomputable def slices_Concat_byte_byte.T (k : Nat) : Tbl := tblOf [⟨63, anyArgs, wr [.sl, (.int .i64)] [.sl] (fun a h => slices_Grow_byte_byte.f k (a.1) (a.2) h)⟩]
noncomputable def slices_Concat_byte_byte.an (k : Nat) (p : Nat) : Option Ann := cond (Nat.beq p 250) (some (.pass [] (lrun [(25, .sl), (26, (.int .i64)), (6, .sl), (27, (.int .i64))] none [(6, .sl)] 2 (fun a h => slices_Concat_byte_byte.l1 k k (a.1) (a.2.1) (a.2.2.1) (a.2.2.2) h))))
  (cond (Nat.beq p 58) (some (.pass [0] (lrun [(0, .sl), (9, .sl), (10, (.int .i64)), (3, (.int .i64)), (11, (.int .i64))] none [(3, (.int .i64))] 0 (fun a h => slices_Concat_byte_byte.l0 k k (a.1) (a.2.1) (a.2.2.1) (a.2.2.2.1) (a.2.2.2.2) h))))
  (cond (Nat.beq p 14951) (some (.join [0, 3, 9, 10, 11] none []))
  (none)))
noncomputable def slices_Concat_byte_byte.body : Code := (Try.f40.body).getD .skip
noncomputable def slices_Concat_byte_byte.c58 : Code := cat slices_Concat_byte_byte.body [1, 1, 0, 1, 0, 0]
noncomputable def slices_Concat_byte_byte.c250 : Code := cat slices_Concat_byte_byte.body [1, 1, 1, 1, 0, 1, 0, 0]
set_option maxRecDepth 100000 in
theorem slices_Concat_byte_byte.TS {C : FuncId → Bool} {X : CallF} (hX : XOk C X) (k : Nat) : TblS Try.prog C X (slices_Concat_byte_byte.T k) := by
  refine tblOf_sound ?_
  intro e he
  rcases List.mem_cons.1 he with rfl | he
  · exact wr_told (slices_Grow_byte_byte.told hX k)
  exact absurd he List.not_mem_nil
set_option maxRecDepth 100000 in
theorem slices_Concat_byte_byte.l1_pass {C : FuncId → Bool} {X : CallF} (hX : XOk C X) (k n : Nat) : PassS Try.prog C X 36 (.loop slices_Concat_byte_byte.c250) (lrun [(25, .sl), (26, (.int .i64)), (6, .sl), (27, (.int .i64))] none [(6, .sl)] 2 (fun a h => slices_Concat_byte_byte.l1 k n (a.1) (a.2.1) (a.2.2.1) (a.2.2.2) h)) :=
  loop_pass (ins := [(25, .sl), (26, (.int .i64)), (6, .sl), (27, (.int .i64))]) (rets := none) (outs := [(6, .sl)]) (id := 2) (tbl := slices_Concat_byte_byte.T k) (an := slices_Concat_byte_byte.an k) (pb := 500) (slices_Concat_byte_byte.TS hX k) (fun n => (fun a h => slices_Concat_byte_byte.l1 k n (a.1) (a.2.1) (a.2.2.1) (a.2.2.2) h)) (fun a h => rfl) (fun n a h => by kernel_rfl)
    (by
      have e : need (slices_Concat_byte_byte.an k) slices_Concat_byte_byte.c250 500 = [] := by kernel_rfl
      rw [e]; intro q hq; cases hq) n
set_option maxRecDepth 100000 in
theorem slices_Concat_byte_byte.l0_pass {C : FuncId → Bool} {X : CallF} (hX : XOk C X) (k n : Nat) : PassS Try.prog C X 36 (.loop slices_Concat_byte_byte.c58) (lrun [(0, .sl), (9, .sl), (10, (.int .i64)), (3, (.int .i64)), (11, (.int .i64))] none [(3, (.int .i64))] 0 (fun a h => slices_Concat_byte_byte.l0 k n (a.1) (a.2.1) (a.2.2.1) (a.2.2.2.1) (a.2.2.2.2) h)) :=
  loop_pass (ins := [(0, .sl), (9, .sl), (10, (.int .i64)), (3, (.int .i64)), (11, (.int .i64))]) (rets := none) (outs := [(3, (.int .i64))]) (id := 0) (tbl := slices_Concat_byte_byte.T k) (an := slices_Concat_byte_byte.an k) (pb := 116) (slices_Concat_byte_byte.TS hX k) (fun n => (fun a h => slices_Concat_byte_byte.l0 k n (a.1) (a.2.1) (a.2.2.1) (a.2.2.2.1) (a.2.2.2.2) h)) (fun a h => rfl) (fun n a h => by kernel_rfl)
    (by
      have e : need (slices_Concat_byte_byte.an k) slices_Concat_byte_byte.c58 116 = [] := by kernel_rfl
      rw [e]; intro q hq; cases hq) n
set_option maxRecDepth 100000 in
theorem slices_Concat_byte_byte.eq (k : Nat) (a : RT [.sl]) (h : H) : (fun a h => slices_Concat_byte_byte.f k a h) a h = kfun Try.prog (slices_Concat_byte_byte.T k) (slices_Concat_byte_byte.an k) (RT [.sl] × H) Try.f40 (encL [.sl] a) h (fun vs h' => (decL [.sl] vs).bind fun x => some (x, h')) := by kernel_rfl
set_option maxRecDepth 100000 in
theorem slices_Concat_byte_byte.told {C : FuncId → Bool} {X : CallF} (hX : XOk C X) (k : Nat) : Den.Told Try.prog C X 40 [.sl] [.sl] (fun a h => slices_Concat_byte_byte.f k a h) :=
  told_of fun a h q e => fn_of (c := slices_Concat_byte_byte.body) (slices_Concat_byte_byte.TS hX k) Try.func40 (by kernel_rfl) (hX.no 40 _ h (by decide))
    (by
      have e : need (slices_Concat_byte_byte.an k) slices_Concat_byte_byte.body 1 = [(Code.loop slices_Concat_byte_byte.c58, lrun [(0, .sl), (9, .sl), (10, (.int .i64)), (3, (.int .i64)), (11, (.int .i64))] none [(3, (.int .i64))] 0 (fun a h => slices_Concat_byte_byte.l0 k k (a.1) (a.2.1) (a.2.2.1) (a.2.2.2.1) (a.2.2.2.2) h)), (Code.loop slices_Concat_byte_byte.c250, lrun [(25, .sl), (26, (.int .i64)), (6, .sl), (27, (.int .i64))] none [(6, .sl)] 2 (fun a h => slices_Concat_byte_byte.l1 k k (a.1) (a.2.1) (a.2.2.1) (a.2.2.2) h))] := by kernel_rfl
      rw [e]; intro q hq
      rcases List.mem_cons.1 hq with rfl | hq
      · exact slices_Concat_byte_byte.l0_pass hX k k
      rcases List.mem_cons.1 hq with rfl | hq
      · exact slices_Concat_byte_byte.l1_pass hX k k
      cases hq)
    ((slices_Concat_byte_byte.eq k a h).symm.trans e)
/-! ### corbel/ask.Lay -/
noncomputable def ask_Lay.f (k : Nat) (a0 : (Int × Int × Int × Int × Int × Sl)) (h : H) : Option ((Sl) × H) :=
  (ask_bytes.f k (627086611 : Int) (4 : Int) (newR h 29 6 [(Value.int .i64 a0.1), (Value.int .i64 a0.2.1), (Value.int .u64 a0.2.2.1), (Value.int .u64 a0.2.2.2.1), (Value.int .i64 a0.2.2.2.2.1), (Value.slice a0.2.2.2.2.2.a a0.2.2.2.2.2.n a0.2.2.2.2.2.c)])).bind fun q1 =>
    (asI .i64 (ldc q1.2 (some ⟨h.next, 0, none⟩))).bind fun n2 =>
    (ask_bytes.f k (wrapA .u64 n2) (2 : Int) q1.2).bind fun q3 =>
    (asI .i64 (ldc q3.2 (some ⟨h.next, 1, none⟩))).bind fun n4 =>
    (ask_bytes.f k (wrapA .u64 n4) (2 : Int) q3.2).bind fun q5 =>
    (asI .u64 (ldc q5.2 (some ⟨h.next, 2, none⟩))).bind fun n6 =>
    (ask_bytes.f k n6 (8 : Int) q5.2).bind fun q7 =>
    (asI .u64 (ldc q7.2 (some ⟨h.next, 3, none⟩))).bind fun n8 =>
    (ask_bytes.f k n8 (8 : Int) q7.2).bind fun q9 =>
    (asI .i64 (ldc q9.2 (some ⟨h.next, 4, none⟩))).bind fun n10 =>
    (ask_bytes.f k (wrapA .u64 n10) (4 : Int) q9.2).bind fun q11 =>
    (asS (ldc q11.2 (some ⟨h.next, 5, none⟩))).bind fun s12 =>
    (slices_Concat_byte_byte.f k (⟨(some ⟨q11.2.next, 0, none⟩), 7, 7⟩ : Sl) (newR q11.2 25 1 [(Value.slice q1.1.a q1.1.n q1.1.c), (Value.slice q3.1.a q3.1.n q3.1.c), (Value.slice q5.1.a q5.1.n q5.1.c), (Value.slice q7.1.a q7.1.n q7.1.c), (Value.slice q9.1.a q9.1.n q9.1.c), (Value.slice q11.1.a q11.1.n q11.1.c), (Value.slice s12.a s12.n s12.c)])).bind fun q13 =>
    cond (same1 (newR h 29 6 [(Value.int .i64 a0.1), (Value.int .i64 a0.2.1), (Value.int .u64 a0.2.2.1), (Value.int .u64 a0.2.2.2.1), (Value.int .i64 a0.2.2.2.2.1), (Value.slice a0.2.2.2.2.2.a a0.2.2.2.2.2.n a0.2.2.2.2.2.c)]) q1.2 (some (Value.pointer (some ⟨h.next, 0, none⟩))) && (same1 (newR h 29 6 [(Value.int .i64 a0.1), (Value.int .i64 a0.2.1), (Value.int .u64 a0.2.2.1), (Value.int .u64 a0.2.2.2.1), (Value.int .i64 a0.2.2.2.2.1), (Value.slice a0.2.2.2.2.2.a a0.2.2.2.2.2.n a0.2.2.2.2.2.c)]) q1.2 (some (Value.pointer (some ⟨h.next, 1, none⟩))) && (same1 q1.2 q3.2 (some (Value.pointer (some ⟨h.next, 1, none⟩))) && (same1 (newR h 29 6 [(Value.int .i64 a0.1), (Value.int .i64 a0.2.1), (Value.int .u64 a0.2.2.1), (Value.int .u64 a0.2.2.2.1), (Value.int .i64 a0.2.2.2.2.1), (Value.slice a0.2.2.2.2.2.a a0.2.2.2.2.2.n a0.2.2.2.2.2.c)]) q1.2 (some (Value.pointer (some ⟨h.next, 2, none⟩))) && (same1 q1.2 q3.2 (some (Value.pointer (some ⟨h.next, 2, none⟩))) && (same1 q3.2 q5.2 (some (Value.pointer (some ⟨h.next, 2, none⟩))) && (same1 (newR h 29 6 [(Value.int .i64 a0.1), (Value.int .i64 a0.2.1), (Value.int .u64 a0.2.2.1), (Value.int .u64 a0.2.2.2.1), (Value.int .i64 a0.2.2.2.2.1), (Value.slice a0.2.2.2.2.2.a a0.2.2.2.2.2.n a0.2.2.2.2.2.c)]) q1.2 (some (Value.pointer (some ⟨h.next, 3, none⟩))) && (same1 q1.2 q3.2 (some (Value.pointer (some ⟨h.next, 3, none⟩))) && (same1 q3.2 q5.2 (some (Value.pointer (some ⟨h.next, 3, none⟩))) && (same1 q5.2 q7.2 (some (Value.pointer (some ⟨h.next, 3, none⟩))) && (same1 (newR h 29 6 [(Value.int .i64 a0.1), (Value.int .i64 a0.2.1), (Value.int .u64 a0.2.2.1), (Value.int .u64 a0.2.2.2.1), (Value.int .i64 a0.2.2.2.2.1), (Value.slice a0.2.2.2.2.2.a a0.2.2.2.2.2.n a0.2.2.2.2.2.c)]) q1.2 (some (Value.pointer (some ⟨h.next, 4, none⟩))) && (same1 q1.2 q3.2 (some (Value.pointer (some ⟨h.next, 4, none⟩))) && (same1 q3.2 q5.2 (some (Value.pointer (some ⟨h.next, 4, none⟩))) && (same1 q5.2 q7.2 (some (Value.pointer (some ⟨h.next, 4, none⟩))) && (same1 q7.2 q9.2 (some (Value.pointer (some ⟨h.next, 4, none⟩))) && (same1 (newR h 29 6 [(Value.int .i64 a0.1), (Value.int .i64 a0.2.1), (Value.int .u64 a0.2.2.1), (Value.int .u64 a0.2.2.2.1), (Value.int .i64 a0.2.2.2.2.1), (Value.slice a0.2.2.2.2.2.a a0.2.2.2.2.2.n a0.2.2.2.2.2.c)]) q1.2 (some (Value.pointer (some ⟨h.next, 5, none⟩))) && (same1 q1.2 q3.2 (some (Value.pointer (some ⟨h.next, 5, none⟩))) && (same1 q3.2 q5.2 (some (Value.pointer (some ⟨h.next, 5, none⟩))) && (same1 q5.2 q7.2 (some (Value.pointer (some ⟨h.next, 5, none⟩))) && (same1 q7.2 q9.2 (some (Value.pointer (some ⟨h.next, 5, none⟩))) && (same1 q9.2 q11.2 (some (Value.pointer (some ⟨h.next, 5, none⟩))) && (true)))))))))))))))))))))) (some (q13.1, q13.2)) none
noncomputable def ask_Lay.T (k : Nat) : Tbl := tblOf [⟨41, anyArgs, wr [(.int .u64), (.int .i64)] [.sl] (fun a h => ask_bytes.f k (a.1) (a.2) h)⟩,
  ⟨40, anyArgs, wr [.sl] [.sl] (fun a h => slices_Concat_byte_byte.f k a h)⟩]
noncomputable def ask_Lay.an (k : Nat) (p : Nat) : Option Ann := none
noncomputable def ask_Lay.body : Code := (Try.f16.body).getD .skip
set_option maxRecDepth 100000 in
theorem ask_Lay.TS {C : FuncId → Bool} {X : CallF} (hX : XOk C X) (k : Nat) : TblS Try.prog C X (ask_Lay.T k) := by
  refine tblOf_sound ?_
  intro e he
  rcases List.mem_cons.1 he with rfl | he
  · exact wr_told (ask_bytes.told hX k)
  rcases List.mem_cons.1 he with rfl | he
  · exact wr_told (slices_Concat_byte_byte.told hX k)
  exact absurd he List.not_mem_nil
set_option maxRecDepth 100000 in
theorem ask_Lay.eq (k : Nat) (a : RT [(.st [(.int .i64), (.int .i64), (.int .u64), (.int .u64), (.int .i64), .sl])]) (h : H) : (fun a h => ask_Lay.f k a h) a h = kfun Try.prog (ask_Lay.T k) (ask_Lay.an k) (RT [.sl] × H) Try.f16 (encL [(.st [(.int .i64), (.int .i64), (.int .u64), (.int .u64), (.int .i64), .sl])] a) h (fun vs h' => (decL [.sl] vs).bind fun x => some (x, h')) := by kernel_rfl
set_option maxRecDepth 100000 in
theorem ask_Lay.told {C : FuncId → Bool} {X : CallF} (hX : XOk C X) (k : Nat) : Den.Told Try.prog C X 16 [(.st [(.int .i64), (.int .i64), (.int .u64), (.int .u64), (.int .i64), .sl])] [.sl] (fun a h => ask_Lay.f k a h) :=
  told_of fun a h q e => fn_of (c := ask_Lay.body) (ask_Lay.TS hX k) Try.func16 (by kernel_rfl) (hX.no 16 _ h (by decide))
    (by
      have e : need (ask_Lay.an k) ask_Lay.body 1 = [] := by kernel_rfl
      rw [e]; intro q hq; cases hq)
    ((ask_Lay.eq k a h).symm.trans e)
/-! ### corbel/ask.number -/
noncomputable def ask_number.l0 (k : Nat) (n : Nat) : Sl → Int → Int → Int → H → Option ((Int) × H) :=
  Nat.rec (motive := fun _ => Sl → Int → Int → Int → H → Option ((Int) × H)) (fun _ _ _ _ _ => none) (fun _ ih x1 x2 x3 x4 h5 => cond (decide (x4 < x2))
      ((asP (ixs 1 x1.a x1.n x4)).bind fun p6 =>
    (asI .u8 (ldc h5 p6)).bind fun n7 =>
    (asI .u64 (intA .or .u64 (wrapA .u64 (x3 * 2 ^ 8)) (wrapA .u64 n7))).bind fun n8 =>
    ih x1 x2 n8 (wrapA .i64 (x4 + (1 : Int))) h5)
      (some (x3, h5))) n
theorem ask_number.l0_zero (k : Nat) (x1 : Sl) (x2 : Int) (x3 : Int) (x4 : Int) (h5 : H) : ask_number.l0 k 0 x1 x2 x3 x4 h5 = none := rfl
theorem ask_number.l0_succ (k n : Nat) (x1 : Sl) (x2 : Int) (x3 : Int) (x4 : Int) (h5 : H) : ask_number.l0 k (n + 1) x1 x2 x3 x4 h5 = (cond (decide (x4 < x2))
      ((asP (ixs 1 x1.a x1.n x4)).bind fun p6 =>
    (asI .u8 (ldc h5 p6)).bind fun n7 =>
    (asI .u64 (intA .or .u64 (wrapA .u64 (x3 * 2 ^ 8)) (wrapA .u64 n7))).bind fun n8 =>
    ask_number.l0 k n x1 x2 n8 (wrapA .i64 (x4 + (1 : Int))) h5)
      (some (x3, h5))) := rfl
noncomputable def ask_number.f (k : Nat) (a0 : Sl) (h : H) : Option ((Int) × H) :=
  (ask_number.l0 k k a0 (Int.ofNat a0.n) (0 : Int) (0 : Int) h).bind fun w9 =>
    some (w9.1, w9.2)
noncomputable def ask_number.T (k : Nat) : Tbl := tblOf []
noncomputable def ask_number.an (k : Nat) (p : Nat) : Option Ann := cond (Nat.beq p 58) (some (.pass [] (lrun [(6, .sl), (7, (.int .i64)), (3, (.int .u64)), (8, (.int .i64))] none [(3, (.int .u64))] 0 (fun a h => ask_number.l0 k k (a.1) (a.2.1) (a.2.2.1) (a.2.2.2) h))))
  (none)
noncomputable def ask_number.body : Code := (Try.f42.body).getD .skip
noncomputable def ask_number.c58 : Code := cat ask_number.body [1, 1, 0, 1, 0, 0]
set_option maxRecDepth 100000 in
theorem ask_number.TS {C : FuncId → Bool} {X : CallF} (hX : XOk C X) (k : Nat) : TblS Try.prog C X (ask_number.T k) := by
  refine tblOf_sound ?_
  intro e he
  exact absurd he List.not_mem_nil
set_option maxRecDepth 100000 in
theorem ask_number.l0_pass {C : FuncId → Bool} {X : CallF} (hX : XOk C X) (k n : Nat) : PassS Try.prog C X 19 (.loop ask_number.c58) (lrun [(6, .sl), (7, (.int .i64)), (3, (.int .u64)), (8, (.int .i64))] none [(3, (.int .u64))] 0 (fun a h => ask_number.l0 k n (a.1) (a.2.1) (a.2.2.1) (a.2.2.2) h)) :=
  loop_pass (ins := [(6, .sl), (7, (.int .i64)), (3, (.int .u64)), (8, (.int .i64))]) (rets := none) (outs := [(3, (.int .u64))]) (id := 0) (tbl := ask_number.T k) (an := ask_number.an k) (pb := 116) (ask_number.TS hX k) (fun n => (fun a h => ask_number.l0 k n (a.1) (a.2.1) (a.2.2.1) (a.2.2.2) h)) (fun a h => rfl) (fun n a h => by kernel_rfl)
    (by
      have e : need (ask_number.an k) ask_number.c58 116 = [] := by kernel_rfl
      rw [e]; intro q hq; cases hq) n
set_option maxRecDepth 100000 in
theorem ask_number.eq (k : Nat) (a : RT [.sl]) (h : H) : (fun a h => ask_number.f k a h) a h = kfun Try.prog (ask_number.T k) (ask_number.an k) (RT [(.int .u64)] × H) Try.f42 (encL [.sl] a) h (fun vs h' => (decL [(.int .u64)] vs).bind fun x => some (x, h')) := by kernel_rfl
set_option maxRecDepth 100000 in
theorem ask_number.told {C : FuncId → Bool} {X : CallF} (hX : XOk C X) (k : Nat) : Den.Told Try.prog C X 42 [.sl] [(.int .u64)] (fun a h => ask_number.f k a h) :=
  told_of fun a h q e => fn_of (c := ask_number.body) (ask_number.TS hX k) Try.func42 (by kernel_rfl) (hX.no 42 _ h (by decide))
    (by
      have e : need (ask_number.an k) ask_number.body 1 = [(Code.loop ask_number.c58, lrun [(6, .sl), (7, (.int .i64)), (3, (.int .u64)), (8, (.int .i64))] none [(3, (.int .u64))] 0 (fun a h => ask_number.l0 k k (a.1) (a.2.1) (a.2.2.1) (a.2.2.2) h))] := by kernel_rfl
      rw [e]; intro q hq
      rcases List.mem_cons.1 hq with rfl | hq
      · exact ask_number.l0_pass hX k k
      cases hq)
    ((ask_number.eq k a h).symm.trans e)
/-! ### slices.Clone[[]byte,byte] -/
noncomputable def slices_Clone_byte_byte.f (k : Nat) (a0 : Sl) (h : H) : Option ((Sl) × H) :=
  (asB (binO1 Try.prog .eql 25 (Value.slice a0.a a0.n a0.c) (Value.slice none 0 0))).bind fun b1 =>
    cond b1
      (some ((⟨none, 0, 0⟩ : Sl), h))
      ((asS2 (apv 5 1 1 (Value.slice (some ⟨h.next, 0, none⟩) 0 0) (Value.slice a0.a a0.n a0.c) (newR h 5 1 []))).bind fun q2 =>
    some (q2.1, q2.2))
noncomputable def slices_Clone_byte_byte.T (k : Nat) : Tbl := tblOf []
noncomputable def slices_Clone_byte_byte.an (k : Nat) (p : Nat) : Option Ann := none
noncomputable def slices_Clone_byte_byte.body : Code := (Try.f43.body).getD .skip
set_option maxRecDepth 100000 in
theorem slices_Clone_byte_byte.TS {C : FuncId → Bool} {X : CallF} (hX : XOk C X) (k : Nat) : TblS Try.prog C X (slices_Clone_byte_byte.T k) := by
  refine tblOf_sound ?_
  intro e he
  exact absurd he List.not_mem_nil
set_option maxRecDepth 100000 in
theorem slices_Clone_byte_byte.eq (k : Nat) (a : RT [.sl]) (h : H) : (fun a h => slices_Clone_byte_byte.f k a h) a h = kfun Try.prog (slices_Clone_byte_byte.T k) (slices_Clone_byte_byte.an k) (RT [.sl] × H) Try.f43 (encL [.sl] a) h (fun vs h' => (decL [.sl] vs).bind fun x => some (x, h')) := by kernel_rfl
set_option maxRecDepth 100000 in
theorem slices_Clone_byte_byte.told {C : FuncId → Bool} {X : CallF} (hX : XOk C X) (k : Nat) : Den.Told Try.prog C X 43 [.sl] [.sl] (fun a h => slices_Clone_byte_byte.f k a h) :=
  told_of fun a h q e => fn_of (c := slices_Clone_byte_byte.body) (slices_Clone_byte_byte.TS hX k) Try.func43 (by kernel_rfl) (hX.no 43 _ h (by decide))
    (by
      have e : need (slices_Clone_byte_byte.an k) slices_Clone_byte_byte.body 1 = [] := by kernel_rfl
      rw [e]; intro q hq; cases hq)
    ((slices_Clone_byte_byte.eq k a h).symm.trans e)
/-! ### corbel/ask.Next -/
noncomputable def ask_Next.f (k : Nat) (a0 : Sl) (h : H) : Option (((Int × Int × Int × Int × Int × Sl) × Int × Int) × H) :=
  (cond (decide ((Int.ofNat a0.n) ≥ (4 : Int))) ((asS (subs 1 (Value.slice a0.a a0.n a0.c) none (some (4 : Int)))).bind fun s1 =>
    (ask_number.f k s1 (newR h 29 6 [(Value.int .i64 (0 : Int)), (Value.int .i64 (0 : Int)), (Value.int .u64 (0 : Int)), (Value.int .u64 (0 : Int)), (Value.int .i64 (0 : Int)), (Value.slice none 0 0)])).bind fun q2 =>
    some (q2.1 != (627086611 : Int), q2.2))
      (some (false, (newR h 29 6 [(Value.int .i64 (0 : Int)), (Value.int .i64 (0 : Int)), (Value.int .u64 (0 : Int)), (Value.int .u64 (0 : Int)), (Value.int .i64 (0 : Int)), (Value.slice none 0 0)])))).bind fun g3 =>
    cond g3.1
      ((stv 6 g3.2 (some ⟨h.next, 0, none⟩) [(Value.int .i64 (0 : Int)), (Value.int .i64 (0 : Int)), (Value.int .u64 (0 : Int)), (Value.int .u64 (0 : Int)), (Value.int .i64 (0 : Int)), (Value.slice none 0 0)]).bind fun q4 =>
    (asSt [(.int .i64), (.int .i64), (.int .u64), (.int .u64), (.int .i64), .sl] (lda 6 q4.2 (some ⟨h.next, 0, none⟩))).bind fun s5 =>
    some (((s5.1, s5.2.1, s5.2.2.1, s5.2.2.2.1, s5.2.2.2.2.1, s5.2.2.2.2.2), (0 : Int), (2 : Int)), q4.2))
      (cond (decide ((Int.ofNat a0.n) < (28 : Int)))
      ((stv 6 g3.2 (some ⟨h.next, 0, none⟩) [(Value.int .i64 (0 : Int)), (Value.int .i64 (0 : Int)), (Value.int .u64 (0 : Int)), (Value.int .u64 (0 : Int)), (Value.int .i64 (0 : Int)), (Value.slice none 0 0)]).bind fun q6 =>
    (asSt [(.int .i64), (.int .i64), (.int .u64), (.int .u64), (.int .i64), .sl] (lda 6 q6.2 (some ⟨h.next, 0, none⟩))).bind fun s7 =>
    some (((s7.1, s7.2.1, s7.2.2.1, s7.2.2.2.1, s7.2.2.2.2.1, s7.2.2.2.2.2), (0 : Int), (7 : Int)), q6.2))
      ((asS (subs 1 (Value.slice a0.a a0.n a0.c) (some (4 : Int)) (some (6 : Int)))).bind fun s8 =>
    (ask_number.f k s8 g3.2).bind fun q9 =>
    (asS (subs 1 (Value.slice a0.a a0.n a0.c) (some (6 : Int)) (some (8 : Int)))).bind fun s10 =>
    (ask_number.f k s10 q9.2).bind fun q11 =>
    (asS (subs 1 (Value.slice a0.a a0.n a0.c) (some (8 : Int)) (some (16 : Int)))).bind fun s12 =>
    (ask_number.f k s12 q11.2).bind fun q13 =>
    (asS (subs 1 (Value.slice a0.a a0.n a0.c) (some (16 : Int)) (some (24 : Int)))).bind fun s14 =>
    (ask_number.f k s14 q13.2).bind fun q15 =>
    (asS (subs 1 (Value.slice a0.a a0.n a0.c) (some (24 : Int)) (some (28 : Int)))).bind fun s16 =>
    (ask_number.f k s16 q15.2).bind fun q17 =>
    (stv 6 (newR q17.2 29 6 [(Value.int .i64 (0 : Int)), (Value.int .i64 (0 : Int)), (Value.int .u64 (0 : Int)), (Value.int .u64 (0 : Int)), (Value.int .i64 (0 : Int)), (Value.slice none 0 0)]) (some ⟨q17.2.next, 0, none⟩) [(Value.int .i64 (wrapA .i64 q9.1)), (Value.int .i64 (wrapA .i64 q11.1)), (Value.int .u64 q13.1), (Value.int .u64 q15.1), (Value.int .i64 (wrapA .i64 q17.1)), (Value.slice none 0 0)]).bind fun q18 =>
    (asI .i64 (ldc q18.2 (some ⟨q17.2.next, 1, none⟩))).bind fun n19 =>
    cond (n19 != (1 : Int))
      ((asSt [(.int .i64), (.int .i64), (.int .u64), (.int .u64), (.int .i64), .sl] (lda 6 q18.2 (some ⟨q17.2.next, 0, none⟩))).bind fun s20 =>
    (stv 6 q18.2 (some ⟨h.next, 0, none⟩) [(Value.int .i64 s20.1), (Value.int .i64 s20.2.1), (Value.int .u64 s20.2.2.1), (Value.int .u64 s20.2.2.2.1), (Value.int .i64 s20.2.2.2.2.1), (Value.slice s20.2.2.2.2.2.a s20.2.2.2.2.2.n s20.2.2.2.2.2.c)]).bind fun q21 =>
    (asSt [(.int .i64), (.int .i64), (.int .u64), (.int .u64), (.int .i64), .sl] (lda 6 q21.2 (some ⟨h.next, 0, none⟩))).bind fun s22 =>
    some (((s22.1, s22.2.1, s22.2.2.1, s22.2.2.2.1, s22.2.2.2.2.1, s22.2.2.2.2.2), (28 : Int), (0 : Int)), q21.2))
      ((asI .i64 (ldc q18.2 (some ⟨q17.2.next, 4, none⟩))).bind fun n23 =>
    cond (decide (n23 > (32768 : Int)))
      ((stv 6 q18.2 (some ⟨h.next, 0, none⟩) [(Value.int .i64 (0 : Int)), (Value.int .i64 (0 : Int)), (Value.int .u64 (0 : Int)), (Value.int .u64 (0 : Int)), (Value.int .i64 (0 : Int)), (Value.slice none 0 0)]).bind fun q24 =>
    (asSt [(.int .i64), (.int .i64), (.int .u64), (.int .u64), (.int .i64), .sl] (lda 6 q24.2 (some ⟨h.next, 0, none⟩))).bind fun s25 =>
    some (((s25.1, s25.2.1, s25.2.2.1, s25.2.2.2.1, s25.2.2.2.2.1, s25.2.2.2.2.2), (0 : Int), (6 : Int)), q24.2))
      ((asI .i64 (ldc q18.2 (some ⟨q17.2.next, 4, none⟩))).bind fun n26 =>
    cond (decide ((Int.ofNat a0.n) < (wrapA .i64 ((28 : Int) + n26))))
      ((stv 6 q18.2 (some ⟨h.next, 0, none⟩) [(Value.int .i64 (0 : Int)), (Value.int .i64 (0 : Int)), (Value.int .u64 (0 : Int)), (Value.int .u64 (0 : Int)), (Value.int .i64 (0 : Int)), (Value.slice none 0 0)]).bind fun q27 =>
    (asSt [(.int .i64), (.int .i64), (.int .u64), (.int .u64), (.int .i64), .sl] (lda 6 q27.2 (some ⟨h.next, 0, none⟩))).bind fun s28 =>
    some (((s28.1, s28.2.1, s28.2.2.1, s28.2.2.2.1, s28.2.2.2.2.1, s28.2.2.2.2.2), (0 : Int), (7 : Int)), q27.2))
      ((asI .i64 (ldc q18.2 (some ⟨q17.2.next, 4, none⟩))).bind fun n29 =>
    (asS (subs 1 (Value.slice a0.a a0.n a0.c) (some (28 : Int)) (some (wrapA .i64 ((28 : Int) + n29))))).bind fun s30 =>
    (slices_Clone_byte_byte.f k s30 q18.2).bind fun q31 =>
    (stv 1 q31.2 (some ⟨q17.2.next, 5, none⟩) [(Value.slice q31.1.a q31.1.n q31.1.c)]).bind fun q32 =>
    (asSt [(.int .i64), (.int .i64), (.int .u64), (.int .u64), (.int .i64), .sl] (lda 6 q32.2 (some ⟨q17.2.next, 0, none⟩))).bind fun s33 =>
    (asI .i64 (ldc q32.2 (some ⟨q17.2.next, 4, none⟩))).bind fun n34 =>
    (stv 6 q32.2 (some ⟨h.next, 0, none⟩) [(Value.int .i64 s33.1), (Value.int .i64 s33.2.1), (Value.int .u64 s33.2.2.1), (Value.int .u64 s33.2.2.2.1), (Value.int .i64 s33.2.2.2.2.1), (Value.slice s33.2.2.2.2.2.a s33.2.2.2.2.2.n s33.2.2.2.2.2.c)]).bind fun q35 =>
    cond (same1 q32.2 q35.2 (some (Value.pointer (some ⟨q17.2.next, 4, none⟩))) && (true)) ((asSt [(.int .i64), (.int .i64), (.int .u64), (.int .u64), (.int .i64), .sl] (lda 6 q35.2 (some ⟨h.next, 0, none⟩))).bind fun s36 =>
    some (((s36.1, s36.2.1, s36.2.2.1, s36.2.2.2.1, s36.2.2.2.2.1, s36.2.2.2.2.2), wrapA .i64 ((28 : Int) + n34), (0 : Int)), q35.2)) none)))))
noncomputable def ask_Next.T (k : Nat) : Tbl := tblOf [⟨42, anyArgs, wr [.sl] [(.int .u64)] (fun a h => ask_number.f k a h)⟩,
  ⟨43, anyArgs, wr [.sl] [.sl] (fun a h => slices_Clone_byte_byte.f k a h)⟩]
noncomputable def ask_Next.an (k : Nat) (p : Nat) : Option Ann := none
noncomputable def ask_Next.body : Code := (Try.f17.body).getD .skip
set_option maxRecDepth 100000 in
theorem ask_Next.TS {C : FuncId → Bool} {X : CallF} (hX : XOk C X) (k : Nat) : TblS Try.prog C X (ask_Next.T k) := by
  refine tblOf_sound ?_
  intro e he
  rcases List.mem_cons.1 he with rfl | he
  · exact wr_told (ask_number.told hX k)
  rcases List.mem_cons.1 he with rfl | he
  · exact wr_told (slices_Clone_byte_byte.told hX k)
  exact absurd he List.not_mem_nil
set_option maxRecDepth 100000 in
theorem ask_Next.eq (k : Nat) (a : RT [.sl]) (h : H) : (fun a h => ask_Next.f k a h) a h = kfun Try.prog (ask_Next.T k) (ask_Next.an k) (RT [(.st [(.int .i64), (.int .i64), (.int .u64), (.int .u64), (.int .i64), .sl]), (.int .i64), (.int .i64)] × H) Try.f17 (encL [.sl] a) h (fun vs h' => (decL [(.st [(.int .i64), (.int .i64), (.int .u64), (.int .u64), (.int .i64), .sl]), (.int .i64), (.int .i64)] vs).bind fun x => some (x, h')) := by kernel_rfl
set_option maxRecDepth 100000 in
theorem ask_Next.told {C : FuncId → Bool} {X : CallF} (hX : XOk C X) (k : Nat) : Den.Told Try.prog C X 17 [.sl] [(.st [(.int .i64), (.int .i64), (.int .u64), (.int .u64), (.int .i64), .sl]), (.int .i64), (.int .i64)] (fun a h => ask_Next.f k a h) :=
  told_of fun a h q e => fn_of (c := ask_Next.body) (ask_Next.TS hX k) Try.func17 (by kernel_rfl) (hX.no 17 _ h (by decide))
    (by
      have e : need (ask_Next.an k) ask_Next.body 1 = [] := by kernel_rfl
      rw [e]; intro q hq; cases hq)
    ((ask_Next.eq k a h).symm.trans e)
/-! ### corbel/corbellaw24.same -/
noncomputable def corbellaw24_same.f (k : Nat) (a0 : (Int × Int × Int × Int × Int × Sl)) (a1 : (Int × Int × Int × Int × Int × Sl)) (h : H) : Option ((Bool) × H) :=
  (asI .i64 (ldc (newR (newR h 29 6 [(Value.int .i64 a0.1), (Value.int .i64 a0.2.1), (Value.int .u64 a0.2.2.1), (Value.int .u64 a0.2.2.2.1), (Value.int .i64 a0.2.2.2.2.1), (Value.slice a0.2.2.2.2.2.a a0.2.2.2.2.2.n a0.2.2.2.2.2.c)]) 29 6 [(Value.int .i64 a1.1), (Value.int .i64 a1.2.1), (Value.int .u64 a1.2.2.1), (Value.int .u64 a1.2.2.2.1), (Value.int .i64 a1.2.2.2.2.1), (Value.slice a1.2.2.2.2.2.a a1.2.2.2.2.2.n a1.2.2.2.2.2.c)]) (some ⟨h.next, 0, none⟩))).bind fun n1 =>
    (asI .i64 (ldc (newR (newR h 29 6 [(Value.int .i64 a0.1), (Value.int .i64 a0.2.1), (Value.int .u64 a0.2.2.1), (Value.int .u64 a0.2.2.2.1), (Value.int .i64 a0.2.2.2.2.1), (Value.slice a0.2.2.2.2.2.a a0.2.2.2.2.2.n a0.2.2.2.2.2.c)]) 29 6 [(Value.int .i64 a1.1), (Value.int .i64 a1.2.1), (Value.int .u64 a1.2.2.1), (Value.int .u64 a1.2.2.2.1), (Value.int .i64 a1.2.2.2.2.1), (Value.slice a1.2.2.2.2.2.a a1.2.2.2.2.2.n a1.2.2.2.2.2.c)]) (some ⟨(newR h 29 6 [(Value.int .i64 a0.1), (Value.int .i64 a0.2.1), (Value.int .u64 a0.2.2.1), (Value.int .u64 a0.2.2.2.1), (Value.int .i64 a0.2.2.2.2.1), (Value.slice a0.2.2.2.2.2.a a0.2.2.2.2.2.n a0.2.2.2.2.2.c)]).next, 0, none⟩))).bind fun n2 =>
    (cond (n1 == n2) ((asI .i64 (ldc (newR (newR h 29 6 [(Value.int .i64 a0.1), (Value.int .i64 a0.2.1), (Value.int .u64 a0.2.2.1), (Value.int .u64 a0.2.2.2.1), (Value.int .i64 a0.2.2.2.2.1), (Value.slice a0.2.2.2.2.2.a a0.2.2.2.2.2.n a0.2.2.2.2.2.c)]) 29 6 [(Value.int .i64 a1.1), (Value.int .i64 a1.2.1), (Value.int .u64 a1.2.2.1), (Value.int .u64 a1.2.2.2.1), (Value.int .i64 a1.2.2.2.2.1), (Value.slice a1.2.2.2.2.2.a a1.2.2.2.2.2.n a1.2.2.2.2.2.c)]) (some ⟨h.next, 1, none⟩))).bind fun n3 =>
    (asI .i64 (ldc (newR (newR h 29 6 [(Value.int .i64 a0.1), (Value.int .i64 a0.2.1), (Value.int .u64 a0.2.2.1), (Value.int .u64 a0.2.2.2.1), (Value.int .i64 a0.2.2.2.2.1), (Value.slice a0.2.2.2.2.2.a a0.2.2.2.2.2.n a0.2.2.2.2.2.c)]) 29 6 [(Value.int .i64 a1.1), (Value.int .i64 a1.2.1), (Value.int .u64 a1.2.2.1), (Value.int .u64 a1.2.2.2.1), (Value.int .i64 a1.2.2.2.2.1), (Value.slice a1.2.2.2.2.2.a a1.2.2.2.2.2.n a1.2.2.2.2.2.c)]) (some ⟨(newR h 29 6 [(Value.int .i64 a0.1), (Value.int .i64 a0.2.1), (Value.int .u64 a0.2.2.1), (Value.int .u64 a0.2.2.2.1), (Value.int .i64 a0.2.2.2.2.1), (Value.slice a0.2.2.2.2.2.a a0.2.2.2.2.2.n a0.2.2.2.2.2.c)]).next, 1, none⟩))).bind fun n4 =>
    some (n3 == n4, (newR (newR h 29 6 [(Value.int .i64 a0.1), (Value.int .i64 a0.2.1), (Value.int .u64 a0.2.2.1), (Value.int .u64 a0.2.2.2.1), (Value.int .i64 a0.2.2.2.2.1), (Value.slice a0.2.2.2.2.2.a a0.2.2.2.2.2.n a0.2.2.2.2.2.c)]) 29 6 [(Value.int .i64 a1.1), (Value.int .i64 a1.2.1), (Value.int .u64 a1.2.2.1), (Value.int .u64 a1.2.2.2.1), (Value.int .i64 a1.2.2.2.2.1), (Value.slice a1.2.2.2.2.2.a a1.2.2.2.2.2.n a1.2.2.2.2.2.c)])))
      (some (false, (newR (newR h 29 6 [(Value.int .i64 a0.1), (Value.int .i64 a0.2.1), (Value.int .u64 a0.2.2.1), (Value.int .u64 a0.2.2.2.1), (Value.int .i64 a0.2.2.2.2.1), (Value.slice a0.2.2.2.2.2.a a0.2.2.2.2.2.n a0.2.2.2.2.2.c)]) 29 6 [(Value.int .i64 a1.1), (Value.int .i64 a1.2.1), (Value.int .u64 a1.2.2.1), (Value.int .u64 a1.2.2.2.1), (Value.int .i64 a1.2.2.2.2.1), (Value.slice a1.2.2.2.2.2.a a1.2.2.2.2.2.n a1.2.2.2.2.2.c)])))).bind fun g5 =>
    (cond g5.1 ((asI .u64 (ldc g5.2 (some ⟨h.next, 2, none⟩))).bind fun n6 =>
    (asI .u64 (ldc g5.2 (some ⟨(newR h 29 6 [(Value.int .i64 a0.1), (Value.int .i64 a0.2.1), (Value.int .u64 a0.2.2.1), (Value.int .u64 a0.2.2.2.1), (Value.int .i64 a0.2.2.2.2.1), (Value.slice a0.2.2.2.2.2.a a0.2.2.2.2.2.n a0.2.2.2.2.2.c)]).next, 2, none⟩))).bind fun n7 =>
    some (n6 == n7, g5.2))
      (some (false, g5.2))).bind fun g8 =>
    (cond g8.1 ((asI .u64 (ldc g8.2 (some ⟨h.next, 3, none⟩))).bind fun n9 =>
    (asI .u64 (ldc g8.2 (some ⟨(newR h 29 6 [(Value.int .i64 a0.1), (Value.int .i64 a0.2.1), (Value.int .u64 a0.2.2.1), (Value.int .u64 a0.2.2.2.1), (Value.int .i64 a0.2.2.2.2.1), (Value.slice a0.2.2.2.2.2.a a0.2.2.2.2.2.n a0.2.2.2.2.2.c)]).next, 3, none⟩))).bind fun n10 =>
    some (n9 == n10, g8.2))
      (some (false, g8.2))).bind fun g11 =>
    (cond g11.1 ((asI .i64 (ldc g11.2 (some ⟨h.next, 4, none⟩))).bind fun n12 =>
    (asI .i64 (ldc g11.2 (some ⟨(newR h 29 6 [(Value.int .i64 a0.1), (Value.int .i64 a0.2.1), (Value.int .u64 a0.2.2.1), (Value.int .u64 a0.2.2.2.1), (Value.int .i64 a0.2.2.2.2.1), (Value.slice a0.2.2.2.2.2.a a0.2.2.2.2.2.n a0.2.2.2.2.2.c)]).next, 4, none⟩))).bind fun n13 =>
    some (n12 == n13, g11.2))
      (some (false, g11.2))).bind fun g14 =>
    (cond g14.1 ((asS (ldc g14.2 (some ⟨h.next, 5, none⟩))).bind fun s15 =>
    (asT (txt g14.2 (Value.slice s15.a s15.n s15.c))).bind fun s16 =>
    (asS (ldc g14.2 (some ⟨(newR h 29 6 [(Value.int .i64 a0.1), (Value.int .i64 a0.2.1), (Value.int .u64 a0.2.2.1), (Value.int .u64 a0.2.2.2.1), (Value.int .i64 a0.2.2.2.2.1), (Value.slice a0.2.2.2.2.2.a a0.2.2.2.2.2.n a0.2.2.2.2.2.c)]).next, 5, none⟩))).bind fun s17 =>
    (asT (txt g14.2 (Value.slice s17.a s17.n s17.c))).bind fun s18 =>
    some (s16.toList == s18.toList, g14.2))
      (some (false, g14.2))).bind fun g19 =>
    some (g19.1, g19.2)
noncomputable def corbellaw24_same.T (k : Nat) : Tbl := tblOf []
noncomputable def corbellaw24_same.an (k : Nat) (p : Nat) : Option Ann := none
noncomputable def corbellaw24_same.body : Code := (Try.f18.body).getD .skip
set_option maxRecDepth 100000 in
theorem corbellaw24_same.TS {C : FuncId → Bool} {X : CallF} (hX : XOk C X) (k : Nat) : TblS Try.prog C X (corbellaw24_same.T k) := by
  refine tblOf_sound ?_
  intro e he
  exact absurd he List.not_mem_nil
set_option maxRecDepth 100000 in
theorem corbellaw24_same.eq (k : Nat) (a : RT [(.st [(.int .i64), (.int .i64), (.int .u64), (.int .u64), (.int .i64), .sl]), (.st [(.int .i64), (.int .i64), (.int .u64), (.int .u64), (.int .i64), .sl])]) (h : H) : (fun a h => corbellaw24_same.f k (a.1) (a.2) h) a h = kfun Try.prog (corbellaw24_same.T k) (corbellaw24_same.an k) (RT [.bool] × H) Try.f18 (encL [(.st [(.int .i64), (.int .i64), (.int .u64), (.int .u64), (.int .i64), .sl]), (.st [(.int .i64), (.int .i64), (.int .u64), (.int .u64), (.int .i64), .sl])] a) h (fun vs h' => (decL [.bool] vs).bind fun x => some (x, h')) := by kernel_rfl
set_option maxRecDepth 100000 in
theorem corbellaw24_same.told {C : FuncId → Bool} {X : CallF} (hX : XOk C X) (k : Nat) : Den.Told Try.prog C X 18 [(.st [(.int .i64), (.int .i64), (.int .u64), (.int .u64), (.int .i64), .sl]), (.st [(.int .i64), (.int .i64), (.int .u64), (.int .u64), (.int .i64), .sl])] [.bool] (fun a h => corbellaw24_same.f k (a.1) (a.2) h) :=
  told_of fun a h q e => fn_of (c := corbellaw24_same.body) (corbellaw24_same.TS hX k) Try.func18 (by kernel_rfl) (hX.no 18 _ h (by decide))
    (by
      have e : need (corbellaw24_same.an k) corbellaw24_same.body 1 = [] := by kernel_rfl
      rw [e]; intro q hq; cases hq)
    ((corbellaw24_same.eq k a h).symm.trans e)
/-! ### corbel/corbellaw24.AskRuns -/
noncomputable def corbellaw24_AskRuns.l2 (k : Nat) (n : Nat) : Int → Sl → Sl → Int → Sl → Int → Int → Int → H → Option ((Int) × H) :=
  Nat.rec (motive := fun _ => Int → Sl → Sl → Int → Sl → Int → Int → Int → H → Option ((Int) × H)) (fun _ _ _ _ _ _ _ _ _ => none) (fun _ ih x61 x62 x63 x64 x65 x66 x67 x68 h69 => cond (decide (x68 < x66))
      ((asP (ixs 1 x65.a x65.n x68)).bind fun p70 =>
    (asI .i64 (ldc h69 p70)).bind fun n71 =>
    (cond (decide (n71 ≤ x61))
      (some (wrapA .i64 (x67 + (1 : Int)), h69))
      (some (x67, h69)) : Option ((Int) × H)).bind fun j72 =>
    ih x61 x62 x63 x64 x65 x66 j72.1 (wrapA .i64 (x68 + (1 : Int))) j72.2)
      (some (x67, h69))) n
theorem corbellaw24_AskRuns.l2_zero (k : Nat) (x61 : Int) (x62 : Sl) (x63 : Sl) (x64 : Int) (x65 : Sl) (x66 : Int) (x67 : Int) (x68 : Int) (h69 : H) : corbellaw24_AskRuns.l2 k 0 x61 x62 x63 x64 x65 x66 x67 x68 h69 = none := rfl
theorem corbellaw24_AskRuns.l2_succ (k n : Nat) (x61 : Int) (x62 : Sl) (x63 : Sl) (x64 : Int) (x65 : Sl) (x66 : Int) (x67 : Int) (x68 : Int) (h69 : H) : corbellaw24_AskRuns.l2 k (n + 1) x61 x62 x63 x64 x65 x66 x67 x68 h69 = (cond (decide (x68 < x66))
      ((asP (ixs 1 x65.a x65.n x68)).bind fun p70 =>
    (asI .i64 (ldc h69 p70)).bind fun n71 =>
    (cond (decide (n71 ≤ x61))
      (some (wrapA .i64 (x67 + (1 : Int)), h69))
      (some (x67, h69)) : Option ((Int) × H)).bind fun j72 =>
    corbellaw24_AskRuns.l2 k n x61 x62 x63 x64 x65 x66 j72.1 (wrapA .i64 (x68 + (1 : Int))) j72.2)
      (some (x67, h69))) := rfl
noncomputable def corbellaw24_AskRuns.l1 (k : Nat) (n : Nat) : Int → Sl → Sl → Sl → Sl → Int → H → Option (((Bool) ⊕ (Sl × Int)) × H) :=
  Nat.rec (motive := fun _ => Int → Sl → Sl → Sl → Sl → Int → H → Option (((Bool) ⊕ (Sl × Int)) × H)) (fun _ _ _ _ _ _ _ => none) (fun _ ih x40 x41 x42 x43 x44 x45 h46 => (ask_Next.f k x44 h46).bind fun q47 =>
    (stv 6 (newR q47.2 29 6 [(Value.int .i64 (0 : Int)), (Value.int .i64 (0 : Int)), (Value.int .u64 (0 : Int)), (Value.int .u64 (0 : Int)), (Value.int .i64 (0 : Int)), (Value.slice none 0 0)]) (some ⟨q47.2.next, 0, none⟩) [(Value.int .i64 q47.1.1.1), (Value.int .i64 q47.1.1.2.1), (Value.int .u64 q47.1.1.2.2.1), (Value.int .u64 q47.1.1.2.2.2.1), (Value.int .i64 q47.1.1.2.2.2.2.1), (Value.slice q47.1.1.2.2.2.2.2.a q47.1.1.2.2.2.2.2.n q47.1.1.2.2.2.2.2.c)]).bind fun q48 =>
    cond (q47.1.2.2 == (7 : Int))
      (some (Sum.inr (x44, x45), q48.2))
      ((cond (q47.1.2.2 != (0 : Int)) (some (true, q48.2, [], []))
      (some (decide (x45 ≥ (Int.ofNat x41.n)), q48.2, [], [])) : Option (Bool × H × LEs × EFs)).bind fun g49 =>
    (cond g49.1 (some (true, g49.2.1, [], []))
      ((asSt [(.int .i64), (.int .i64), (.int .u64), (.int .u64), (.int .i64), .sl] (lda 6 g49.2.1 (some ⟨q47.2.next, 0, none⟩))).bind fun s50 =>
    (asP (ixs 6 x41.a x41.n x45)).bind fun p51 =>
    (asSt [(.int .i64), (.int .i64), (.int .u64), (.int .u64), (.int .i64), .sl] (lda 6 g49.2.1 p51)).bind fun s52 =>
    (corbellaw24_same.f k (s50.1, s50.2.1, s50.2.2.1, s50.2.2.2.1, s50.2.2.2.2.1, s50.2.2.2.2.2) (s52.1, s52.2.1, s52.2.2.1, s52.2.2.2.1, s52.2.2.2.2.1, s52.2.2.2.2.2) g49.2.1).bind fun q53 =>
    some (!q53.1, q53.2, [], [])) : Option (Bool × H × LEs × EFs)).bind fun g54 =>
    (cond g54.1 (some (true, g54.2.1, [], []))
      (some (decide (q47.1.2.1 < (1 : Int)), g54.2.1, [], [])) : Option (Bool × H × LEs × EFs)).bind fun g55 =>
    (cond g55.1 (some (true, g55.2.1, [], []))
      (some (decide (q47.1.2.1 > (Int.ofNat x44.n)), g55.2.1, [], [])) : Option (Bool × H × LEs × EFs)).bind fun g56 =>
    cond g56.1
      (some (Sum.inl false, g56.2.1))
      ((asS (subs 1 (Value.slice x44.a x44.n x44.c) (some q47.1.2.1) none)).bind fun s57 =>
    ih x40 x41 x42 x43 s57 (wrapA .i64 (x45 + (1 : Int))) g56.2.1))) n
theorem corbellaw24_AskRuns.l1_zero (k : Nat) (x40 : Int) (x41 : Sl) (x42 : Sl) (x43 : Sl) (x44 : Sl) (x45 : Int) (h46 : H) : corbellaw24_AskRuns.l1 k 0 x40 x41 x42 x43 x44 x45 h46 = none := rfl
theorem corbellaw24_AskRuns.l1_succ (k n : Nat) (x40 : Int) (x41 : Sl) (x42 : Sl) (x43 : Sl) (x44 : Sl) (x45 : Int) (h46 : H) : corbellaw24_AskRuns.l1 k (n + 1) x40 x41 x42 x43 x44 x45 h46 = ((ask_Next.f k x44 h46).bind fun q47 =>
    (stv 6 (newR q47.2 29 6 [(Value.int .i64 (0 : Int)), (Value.int .i64 (0 : Int)), (Value.int .u64 (0 : Int)), (Value.int .u64 (0 : Int)), (Value.int .i64 (0 : Int)), (Value.slice none 0 0)]) (some ⟨q47.2.next, 0, none⟩) [(Value.int .i64 q47.1.1.1), (Value.int .i64 q47.1.1.2.1), (Value.int .u64 q47.1.1.2.2.1), (Value.int .u64 q47.1.1.2.2.2.1), (Value.int .i64 q47.1.1.2.2.2.2.1), (Value.slice q47.1.1.2.2.2.2.2.a q47.1.1.2.2.2.2.2.n q47.1.1.2.2.2.2.2.c)]).bind fun q48 =>
    cond (q47.1.2.2 == (7 : Int))
      (some (Sum.inr (x44, x45), q48.2))
      ((cond (q47.1.2.2 != (0 : Int)) (some (true, q48.2, [], []))
      (some (decide (x45 ≥ (Int.ofNat x41.n)), q48.2, [], [])) : Option (Bool × H × LEs × EFs)).bind fun g49 =>
    (cond g49.1 (some (true, g49.2.1, [], []))
      ((asSt [(.int .i64), (.int .i64), (.int .u64), (.int .u64), (.int .i64), .sl] (lda 6 g49.2.1 (some ⟨q47.2.next, 0, none⟩))).bind fun s50 =>
    (asP (ixs 6 x41.a x41.n x45)).bind fun p51 =>
    (asSt [(.int .i64), (.int .i64), (.int .u64), (.int .u64), (.int .i64), .sl] (lda 6 g49.2.1 p51)).bind fun s52 =>
    (corbellaw24_same.f k (s50.1, s50.2.1, s50.2.2.1, s50.2.2.2.1, s50.2.2.2.2.1, s50.2.2.2.2.2) (s52.1, s52.2.1, s52.2.2.1, s52.2.2.2.1, s52.2.2.2.2.1, s52.2.2.2.2.2) g49.2.1).bind fun q53 =>
    some (!q53.1, q53.2, [], [])) : Option (Bool × H × LEs × EFs)).bind fun g54 =>
    (cond g54.1 (some (true, g54.2.1, [], []))
      (some (decide (q47.1.2.1 < (1 : Int)), g54.2.1, [], [])) : Option (Bool × H × LEs × EFs)).bind fun g55 =>
    (cond g55.1 (some (true, g55.2.1, [], []))
      (some (decide (q47.1.2.1 > (Int.ofNat x44.n)), g55.2.1, [], [])) : Option (Bool × H × LEs × EFs)).bind fun g56 =>
    cond g56.1
      (some (Sum.inl false, g56.2.1))
      ((asS (subs 1 (Value.slice x44.a x44.n x44.c) (some q47.1.2.1) none)).bind fun s57 =>
    corbellaw24_AskRuns.l1 k n x40 x41 x42 x43 s57 (wrapA .i64 (x45 + (1 : Int))) g56.2.1))) := rfl
noncomputable def corbellaw24_AskRuns.l0 (k : Nat) (n : Nat) : Sl → Int → Sl → Sl → Sl → Int → H → Option ((Sl × Sl × Sl) × H) :=
  Nat.rec (motive := fun _ => Sl → Int → Sl → Sl → Sl → Int → H → Option ((Sl × Sl × Sl) × H)) (fun _ _ _ _ _ _ _ => none) (fun _ ih x1 x2 x3 x4 x5 x6 h7 => (cond (decide (x6 < (Int.ofNat x1.n))) (some (decide (x6 < (8 : Int)), h7))
      (some (false, h7))).bind fun g8 =>
    cond g8.1
      ((asP (ixs 7 x1.a x1.n x6)).bind fun p9 =>
    (asSt [(.int .i64), (.int .i64), (.int .i64), (.int .i64), (.int .u64), (.int .u64), .sl] (lda 7 g8.2 p9)).bind fun s10 =>
    (corbellaw24_of.f k (s10.1, s10.2.1, s10.2.2.1, s10.2.2.2.1, s10.2.2.2.2.1, s10.2.2.2.2.2.1, s10.2.2.2.2.2.2) g8.2).bind fun q11 =>
    (stv 6 (newR q11.2 29 6 [(Value.int .i64 (0 : Int)), (Value.int .i64 (0 : Int)), (Value.int .u64 (0 : Int)), (Value.int .u64 (0 : Int)), (Value.int .i64 (0 : Int)), (Value.slice none 0 0)]) (some ⟨q11.2.next, 0, none⟩) [(Value.int .i64 q11.1.1), (Value.int .i64 q11.1.2.1), (Value.int .u64 q11.1.2.2.1), (Value.int .u64 q11.1.2.2.2.1), (Value.int .i64 q11.1.2.2.2.2.1), (Value.slice q11.1.2.2.2.2.2.a q11.1.2.2.2.2.2.n q11.1.2.2.2.2.2.c)]).bind fun q12 =>
    (asI .i64 (ldc q12.2 (some ⟨q11.2.next, 1, none⟩))).bind fun n13 =>
    (corbelhand_Pick.f k n13 (65536 : Int) q12.2).bind fun q14 =>
    (stv 1 q14.2 (some ⟨q11.2.next, 1, none⟩) [(Value.int .i64 q14.1)]).bind fun q15 =>
    (asI .i64 (ldc q15.2 (some ⟨q11.2.next, 0, none⟩))).bind fun n16 =>
    (corbelhand_Pick.f k n16 (65536 : Int) q15.2).bind fun q17 =>
    (stv 1 q17.2 (some ⟨q11.2.next, 0, none⟩) [(Value.int .i64 q17.1)]).bind fun q18 =>
    (asI .i64 (ldc q18.2 (some ⟨q11.2.next, 4, none⟩))).bind fun n19 =>
    (corbelhand_Pick.f k n19 (4294967296 : Int) q18.2).bind fun q20 =>
    (stv 1 q20.2 (some ⟨q11.2.next, 4, none⟩) [(Value.int .i64 q20.1)]).bind fun q21 =>
    (stv 1 q21.2 (some ⟨q11.2.next, 5, none⟩) [(Value.slice none 0 0)]).bind fun q22 =>
    (asI .i64 (ldc q22.2 (some ⟨q11.2.next, 1, none⟩))).bind fun n23 =>
    (cond (n23 == (1 : Int))
      ((asI .i64 (ldc q22.2 (some ⟨q11.2.next, 4, none⟩))).bind fun n24 =>
    (corbelhand_Pick.f k n24 (300 : Int) q22.2).bind fun q25 =>
    (stv 1 q25.2 (some ⟨q11.2.next, 4, none⟩) [(Value.int .i64 q25.1)]).bind fun q26 =>
    (asI .i64 (ldc q26.2 (some ⟨q11.2.next, 4, none⟩))).bind fun n27 =>
    (corbelhand_Bytes.f k x6 n27 q26.2).bind fun q28 =>
    (stv 1 q28.2 (some ⟨q11.2.next, 5, none⟩) [(Value.slice q28.1.a q28.1.n q28.1.c)]).bind fun q29 =>
    some ((), q29.2))
      (some ((), q22.2)) : Option ((Unit) × H)).bind fun j30 =>
    (asSt [(.int .i64), (.int .i64), (.int .u64), (.int .u64), (.int .i64), .sl] (lda 6 j30.2 (some ⟨q11.2.next, 0, none⟩))).bind fun s31 =>
    (asS2 (apv 29 6 64 (Value.slice x3.a x3.n x3.c) (Value.slice (some ⟨j30.2.next, 0, none⟩) 1 1) (newR j30.2 29 6 [(Value.int .i64 s31.1), (Value.int .i64 s31.2.1), (Value.int .u64 s31.2.2.1), (Value.int .u64 s31.2.2.2.1), (Value.int .i64 s31.2.2.2.2.1), (Value.slice s31.2.2.2.2.2.a s31.2.2.2.2.2.n s31.2.2.2.2.2.c)]))).bind fun q32 =>
    (asSt [(.int .i64), (.int .i64), (.int .u64), (.int .u64), (.int .i64), .sl] (lda 6 q32.2 (some ⟨q11.2.next, 0, none⟩))).bind fun s33 =>
    (ask_Lay.f k (s33.1, s33.2.1, s33.2.2.1, s33.2.2.2.1, s33.2.2.2.2.1, s33.2.2.2.2.2) q32.2).bind fun q34 =>
    (asS2 (apv 5 1 1 (Value.slice x4.a x4.n x4.c) (Value.slice q34.1.a q34.1.n q34.1.c) q34.2)).bind fun q35 =>
    (asS2 (apv 3 1 8 (Value.slice x5.a x5.n x5.c) (Value.slice (some ⟨q35.2.next, 0, none⟩) 1 1) (newR q35.2 3 1 [(Value.int .i64 (Int.ofNat q35.1.n))]))).bind fun q36 =>
    ih x1 x2 q32.1 q35.1 q36.1 (wrapA .i64 (x6 + (1 : Int))) q36.2)
      (some ((x3, x4, x5), g8.2))) n
theorem corbellaw24_AskRuns.l0_zero (k : Nat) (x1 : Sl) (x2 : Int) (x3 : Sl) (x4 : Sl) (x5 : Sl) (x6 : Int) (h7 : H) : corbellaw24_AskRuns.l0 k 0 x1 x2 x3 x4 x5 x6 h7 = none := rfl
theorem corbellaw24_AskRuns.l0_succ (k n : Nat) (x1 : Sl) (x2 : Int) (x3 : Sl) (x4 : Sl) (x5 : Sl) (x6 : Int) (h7 : H) : corbellaw24_AskRuns.l0 k (n + 1) x1 x2 x3 x4 x5 x6 h7 = ((cond (decide (x6 < (Int.ofNat x1.n))) (some (decide (x6 < (8 : Int)), h7))
      (some (false, h7))).bind fun g8 =>
    cond g8.1
      ((asP (ixs 7 x1.a x1.n x6)).bind fun p9 =>
    (asSt [(.int .i64), (.int .i64), (.int .i64), (.int .i64), (.int .u64), (.int .u64), .sl] (lda 7 g8.2 p9)).bind fun s10 =>
    (corbellaw24_of.f k (s10.1, s10.2.1, s10.2.2.1, s10.2.2.2.1, s10.2.2.2.2.1, s10.2.2.2.2.2.1, s10.2.2.2.2.2.2) g8.2).bind fun q11 =>
    (stv 6 (newR q11.2 29 6 [(Value.int .i64 (0 : Int)), (Value.int .i64 (0 : Int)), (Value.int .u64 (0 : Int)), (Value.int .u64 (0 : Int)), (Value.int .i64 (0 : Int)), (Value.slice none 0 0)]) (some ⟨q11.2.next, 0, none⟩) [(Value.int .i64 q11.1.1), (Value.int .i64 q11.1.2.1), (Value.int .u64 q11.1.2.2.1), (Value.int .u64 q11.1.2.2.2.1), (Value.int .i64 q11.1.2.2.2.2.1), (Value.slice q11.1.2.2.2.2.2.a q11.1.2.2.2.2.2.n q11.1.2.2.2.2.2.c)]).bind fun q12 =>
    (asI .i64 (ldc q12.2 (some ⟨q11.2.next, 1, none⟩))).bind fun n13 =>
    (corbelhand_Pick.f k n13 (65536 : Int) q12.2).bind fun q14 =>
    (stv 1 q14.2 (some ⟨q11.2.next, 1, none⟩) [(Value.int .i64 q14.1)]).bind fun q15 =>
    (asI .i64 (ldc q15.2 (some ⟨q11.2.next, 0, none⟩))).bind fun n16 =>
    (corbelhand_Pick.f k n16 (65536 : Int) q15.2).bind fun q17 =>
    (stv 1 q17.2 (some ⟨q11.2.next, 0, none⟩) [(Value.int .i64 q17.1)]).bind fun q18 =>
    (asI .i64 (ldc q18.2 (some ⟨q11.2.next, 4, none⟩))).bind fun n19 =>
    (corbelhand_Pick.f k n19 (4294967296 : Int) q18.2).bind fun q20 =>
    (stv 1 q20.2 (some ⟨q11.2.next, 4, none⟩) [(Value.int .i64 q20.1)]).bind fun q21 =>
    (stv 1 q21.2 (some ⟨q11.2.next, 5, none⟩) [(Value.slice none 0 0)]).bind fun q22 =>
    (asI .i64 (ldc q22.2 (some ⟨q11.2.next, 1, none⟩))).bind fun n23 =>
    (cond (n23 == (1 : Int))
      ((asI .i64 (ldc q22.2 (some ⟨q11.2.next, 4, none⟩))).bind fun n24 =>
    (corbelhand_Pick.f k n24 (300 : Int) q22.2).bind fun q25 =>
    (stv 1 q25.2 (some ⟨q11.2.next, 4, none⟩) [(Value.int .i64 q25.1)]).bind fun q26 =>
    (asI .i64 (ldc q26.2 (some ⟨q11.2.next, 4, none⟩))).bind fun n27 =>
    (corbelhand_Bytes.f k x6 n27 q26.2).bind fun q28 =>
    (stv 1 q28.2 (some ⟨q11.2.next, 5, none⟩) [(Value.slice q28.1.a q28.1.n q28.1.c)]).bind fun q29 =>
    some ((), q29.2))
      (some ((), q22.2)) : Option ((Unit) × H)).bind fun j30 =>
    (asSt [(.int .i64), (.int .i64), (.int .u64), (.int .u64), (.int .i64), .sl] (lda 6 j30.2 (some ⟨q11.2.next, 0, none⟩))).bind fun s31 =>
    (asS2 (apv 29 6 64 (Value.slice x3.a x3.n x3.c) (Value.slice (some ⟨j30.2.next, 0, none⟩) 1 1) (newR j30.2 29 6 [(Value.int .i64 s31.1), (Value.int .i64 s31.2.1), (Value.int .u64 s31.2.2.1), (Value.int .u64 s31.2.2.2.1), (Value.int .i64 s31.2.2.2.2.1), (Value.slice s31.2.2.2.2.2.a s31.2.2.2.2.2.n s31.2.2.2.2.2.c)]))).bind fun q32 =>
    (asSt [(.int .i64), (.int .i64), (.int .u64), (.int .u64), (.int .i64), .sl] (lda 6 q32.2 (some ⟨q11.2.next, 0, none⟩))).bind fun s33 =>
    (ask_Lay.f k (s33.1, s33.2.1, s33.2.2.1, s33.2.2.2.1, s33.2.2.2.2.1, s33.2.2.2.2.2) q32.2).bind fun q34 =>
    (asS2 (apv 5 1 1 (Value.slice x4.a x4.n x4.c) (Value.slice q34.1.a q34.1.n q34.1.c) q34.2)).bind fun q35 =>
    (asS2 (apv 3 1 8 (Value.slice x5.a x5.n x5.c) (Value.slice (some ⟨q35.2.next, 0, none⟩) 1 1) (newR q35.2 3 1 [(Value.int .i64 (Int.ofNat q35.1.n))]))).bind fun q36 =>
    corbellaw24_AskRuns.l0 k n x1 x2 q32.1 q35.1 q36.1 (wrapA .i64 (x6 + (1 : Int))) q36.2)
      (some ((x3, x4, x5), g8.2))) := rfl
noncomputable def corbellaw24_AskRuns.f (k : Nat) (a0 : Sl) (a1 : Int) (h : H) : Option ((Bool) × H) :=
  cond (!true)
      (some (false, h))
      ((corbellaw24_AskRuns.l0 k k a0 a1 (⟨none, 0, 0⟩ : Sl) (⟨none, 0, 0⟩ : Sl) (⟨none, 0, 0⟩ : Sl) (0 : Int) h).bind fun w37 =>
    (corbelhand_Pick.f k a1 (wrapA .i64 ((Int.ofNat w37.1.2.1.n) + (1 : Int))) w37.2).bind fun q38 =>
    (asS (subs 1 (Value.slice w37.1.2.1.a w37.1.2.1.n w37.1.2.1.c) none (some q38.1))).bind fun s39 =>
    (corbellaw24_AskRuns.l1 k k q38.1 w37.1.1 w37.1.2.1 w37.1.2.2 s39 (0 : Int) q38.2).bind fun w58 =>
    match w58.1 with
    | .inl r59 => some (r59, w58.2)
    | .inr o60 => (corbellaw24_AskRuns.l2 k k q38.1 w37.1.2.1 o60.1 o60.2 w37.1.2.2 (Int.ofNat w37.1.2.2.n) (0 : Int) (0 : Int) w58.2).bind fun w73 =>
    (cond (o60.2 == w73.1) ((cond (decide (q38.1 < (Int.ofNat w37.1.2.1.n))) (some (true, w73.2))
      (some ((Int.ofNat o60.1.n) == (0 : Int), w73.2))).bind fun g74 =>
    some (g74.1, g74.2))
      (some (false, w73.2))).bind fun g75 =>
    some (g75.1, g75.2))
noncomputable def corbellaw24_AskRuns.T (k : Nat) : Tbl := tblOf [⟨12, anyArgs, knownW⟩,
  ⟨13, anyArgs, wr [(.st [(.int .i64), (.int .i64), (.int .i64), (.int .i64), (.int .u64), (.int .u64), .sl])] [(.st [(.int .i64), (.int .i64), (.int .u64), (.int .u64), (.int .i64), .sl])] (fun a h => corbellaw24_of.f k a h)⟩,
  ⟨14, anyArgs, wr [(.int .i64), (.int .i64)] [(.int .i64)] (fun a h => corbelhand_Pick.f k (a.1) (a.2) h)⟩,
  ⟨15, anyArgs, wr [(.int .i64), (.int .i64)] [.sl] (fun a h => corbelhand_Bytes.f k (a.1) (a.2) h)⟩,
  ⟨16, anyArgs, wr [(.st [(.int .i64), (.int .i64), (.int .u64), (.int .u64), (.int .i64), .sl])] [.sl] (fun a h => ask_Lay.f k a h)⟩,
  ⟨17, anyArgs, wr [.sl] [(.st [(.int .i64), (.int .i64), (.int .u64), (.int .u64), (.int .i64), .sl]), (.int .i64), (.int .i64)] (fun a h => ask_Next.f k a h)⟩,
  ⟨18, anyArgs, wr [(.st [(.int .i64), (.int .i64), (.int .u64), (.int .u64), (.int .i64), .sl]), (.st [(.int .i64), (.int .i64), (.int .u64), (.int .u64), (.int .i64), .sl])] [.bool] (fun a h => corbellaw24_same.f k (a.1) (a.2) h)⟩]
noncomputable def corbellaw24_AskRuns.an (k : Nat) (p : Nat) : Option Ann := cond (Nat.beq p 32762) (some (.pass [1, 6, 10, 11] (lrun [(1, (.int .i64)), (6, .sl), (10, .sl), (11, (.int .i64)), (121, .sl), (122, (.int .i64)), (15, (.int .i64)), (123, (.int .i64))] none [(15, (.int .i64))] 4 (fun a h => corbellaw24_AskRuns.l2 k k (a.1) (a.2.1) (a.2.2.1) (a.2.2.2.1) (a.2.2.2.2.1) (a.2.2.2.2.2.1) (a.2.2.2.2.2.2.1) (a.2.2.2.2.2.2.2) h))))
  (cond (Nat.beq p 4193587) (some (.join [1, 6, 10, 11, 121, 122, 123] none [(15, (.int .i64))]))
  (cond (Nat.beq p 4092) (some (.pass [1, 6, 7] (lrun [(1, (.int .i64)), (5, .sl), (6, .sl), (7, .sl), (10, .sl), (11, (.int .i64))] (some [(4, .bool)]) [(10, .sl), (11, (.int .i64))] 2 (fun a h => corbellaw24_AskRuns.l1 k k (a.1) (a.2.1) (a.2.2.1) (a.2.2.2.1) (a.2.2.2.2.1) (a.2.2.2.2.2) h))))
  (cond (Nat.beq p 506) (some (.pass [1] (lrun [(0, .sl), (1, (.int .i64)), (5, .sl), (6, .sl), (7, .sl), (8, (.int .i64))] none [(5, .sl), (6, .sl), (7, .sl)] 0 (fun a h => corbellaw24_AskRuns.l0 k k (a.1) (a.2.1) (a.2.2.1) (a.2.2.2.1) (a.2.2.2.2.1) (a.2.2.2.2.2) h))))
  (cond (Nat.beq p 1036925) (some (.join [0, 1, 5, 6, 7, 8, 9] none []))
  (none)))))
noncomputable def corbellaw24_AskRuns.body : Code := (Try.f3.body).getD .skip
noncomputable def corbellaw24_AskRuns.c506 : Code := cat corbellaw24_AskRuns.body [1, 1, 1, 1, 1, 0, 1, 0, 0]
noncomputable def corbellaw24_AskRuns.c4092 : Code := cat corbellaw24_AskRuns.body [1, 1, 1, 1, 1, 1, 1, 1, 1, 0, 0, 0]
noncomputable def corbellaw24_AskRuns.c32762 : Code := cat corbellaw24_AskRuns.body [1, 1, 1, 1, 1, 1, 1, 1, 1, 1, 1, 0, 1, 0, 0]
set_option maxRecDepth 100000 in
theorem corbellaw24_AskRuns.TS {C : FuncId → Bool} {X : CallF} (hX : XOk C X) (hK12 : KOk X 12) (k : Nat) : TblS Try.prog C X (corbellaw24_AskRuns.T k) := by
  refine tblOf_sound ?_
  intro e he
  rcases List.mem_cons.1 he with rfl | he
  · exact knownW_told hK12
  rcases List.mem_cons.1 he with rfl | he
  · exact wr_told (corbellaw24_of.told hX k)
  rcases List.mem_cons.1 he with rfl | he
  · exact wr_told (corbelhand_Pick.told hX k)
  rcases List.mem_cons.1 he with rfl | he
  · exact wr_told (corbelhand_Bytes.told hX k)
  rcases List.mem_cons.1 he with rfl | he
  · exact wr_told (ask_Lay.told hX k)
  rcases List.mem_cons.1 he with rfl | he
  · exact wr_told (ask_Next.told hX k)
  rcases List.mem_cons.1 he with rfl | he
  · exact wr_told (corbellaw24_same.told hX k)
  exact absurd he List.not_mem_nil
set_option maxRecDepth 100000 in
theorem corbellaw24_AskRuns.l2_pass {C : FuncId → Bool} {X : CallF} (hX : XOk C X) (hK12 : KOk X 12) (k n : Nat) : PassS Try.prog C X 147 (.loop corbellaw24_AskRuns.c32762) (lrun [(1, (.int .i64)), (6, .sl), (10, .sl), (11, (.int .i64)), (121, .sl), (122, (.int .i64)), (15, (.int .i64)), (123, (.int .i64))] none [(15, (.int .i64))] 4 (fun a h => corbellaw24_AskRuns.l2 k n (a.1) (a.2.1) (a.2.2.1) (a.2.2.2.1) (a.2.2.2.2.1) (a.2.2.2.2.2.1) (a.2.2.2.2.2.2.1) (a.2.2.2.2.2.2.2) h)) :=
  loop_pass (ins := [(1, (.int .i64)), (6, .sl), (10, .sl), (11, (.int .i64)), (121, .sl), (122, (.int .i64)), (15, (.int .i64)), (123, (.int .i64))]) (rets := none) (outs := [(15, (.int .i64))]) (id := 4) (tbl := corbellaw24_AskRuns.T k) (an := corbellaw24_AskRuns.an k) (pb := 65524) (corbellaw24_AskRuns.TS hX hK12 k) (fun n => (fun a h => corbellaw24_AskRuns.l2 k n (a.1) (a.2.1) (a.2.2.1) (a.2.2.2.1) (a.2.2.2.2.1) (a.2.2.2.2.2.1) (a.2.2.2.2.2.2.1) (a.2.2.2.2.2.2.2) h)) (fun a h => rfl) (fun n a h => by kernel_rfl)
    (by
      have e : need (corbellaw24_AskRuns.an k) corbellaw24_AskRuns.c32762 65524 = [] := by kernel_rfl
      rw [e]; intro q hq; cases hq) n
set_option maxRecDepth 100000 in
theorem corbellaw24_AskRuns.l1_pass {C : FuncId → Bool} {X : CallF} (hX : XOk C X) (hK12 : KOk X 12) (k n : Nat) : PassS Try.prog C X 147 (.loop corbellaw24_AskRuns.c4092) (lrun [(1, (.int .i64)), (5, .sl), (6, .sl), (7, .sl), (10, .sl), (11, (.int .i64))] (some [(4, .bool)]) [(10, .sl), (11, (.int .i64))] 2 (fun a h => corbellaw24_AskRuns.l1 k n (a.1) (a.2.1) (a.2.2.1) (a.2.2.2.1) (a.2.2.2.2.1) (a.2.2.2.2.2) h)) :=
  loop_pass (ins := [(1, (.int .i64)), (5, .sl), (6, .sl), (7, .sl), (10, .sl), (11, (.int .i64))]) (rets := (some [(4, .bool)])) (outs := [(10, .sl), (11, (.int .i64))]) (id := 2) (tbl := corbellaw24_AskRuns.T k) (an := corbellaw24_AskRuns.an k) (pb := 8184) (corbellaw24_AskRuns.TS hX hK12 k) (fun n => (fun a h => corbellaw24_AskRuns.l1 k n (a.1) (a.2.1) (a.2.2.1) (a.2.2.2.1) (a.2.2.2.2.1) (a.2.2.2.2.2) h)) (fun a h => rfl) (fun n a h => by kernel_rfl)
    (by
      have e : need (corbellaw24_AskRuns.an k) corbellaw24_AskRuns.c4092 8184 = [] := by kernel_rfl
      rw [e]; intro q hq; cases hq) n
set_option maxRecDepth 100000 in
theorem corbellaw24_AskRuns.l0_pass {C : FuncId → Bool} {X : CallF} (hX : XOk C X) (hK12 : KOk X 12) (k n : Nat) : PassS Try.prog C X 147 (.loop corbellaw24_AskRuns.c506) (lrun [(0, .sl), (1, (.int .i64)), (5, .sl), (6, .sl), (7, .sl), (8, (.int .i64))] none [(5, .sl), (6, .sl), (7, .sl)] 0 (fun a h => corbellaw24_AskRuns.l0 k n (a.1) (a.2.1) (a.2.2.1) (a.2.2.2.1) (a.2.2.2.2.1) (a.2.2.2.2.2) h)) :=
  loop_pass (ins := [(0, .sl), (1, (.int .i64)), (5, .sl), (6, .sl), (7, .sl), (8, (.int .i64))]) (rets := none) (outs := [(5, .sl), (6, .sl), (7, .sl)]) (id := 0) (tbl := corbellaw24_AskRuns.T k) (an := corbellaw24_AskRuns.an k) (pb := 1012) (corbellaw24_AskRuns.TS hX hK12 k) (fun n => (fun a h => corbellaw24_AskRuns.l0 k n (a.1) (a.2.1) (a.2.2.1) (a.2.2.2.1) (a.2.2.2.2.1) (a.2.2.2.2.2) h)) (fun a h => rfl) (fun n a h => by kernel_rfl)
    (by
      have e : need (corbellaw24_AskRuns.an k) corbellaw24_AskRuns.c506 1012 = [] := by kernel_rfl
      rw [e]; intro q hq; cases hq) n
set_option maxRecDepth 100000 in
theorem corbellaw24_AskRuns.eq (k : Nat) (a : RT [.sl, (.int .i64)]) (h : H) : (fun a h => corbellaw24_AskRuns.f k (a.1) (a.2) h) a h = kfun Try.prog (corbellaw24_AskRuns.T k) (corbellaw24_AskRuns.an k) (RT [.bool] × H) Try.f3 (encL [.sl, (.int .i64)] a) h (fun vs h' => (decL [.bool] vs).bind fun x => some (x, h')) := by kernel_rfl
set_option maxRecDepth 100000 in
theorem corbellaw24_AskRuns.told {C : FuncId → Bool} {X : CallF} (hX : XOk C X) (hK12 : KOk X 12) (k : Nat) : Den.Told Try.prog C X 3 [.sl, (.int .i64)] [.bool] (fun a h => corbellaw24_AskRuns.f k (a.1) (a.2) h) :=
  told_of fun a h q e => fn_of (c := corbellaw24_AskRuns.body) (corbellaw24_AskRuns.TS hX hK12 k) Try.func3 (by kernel_rfl) (hX.no 3 _ h (by decide))
    (by
      have e : need (corbellaw24_AskRuns.an k) corbellaw24_AskRuns.body 1 = [(Code.loop corbellaw24_AskRuns.c506, lrun [(0, .sl), (1, (.int .i64)), (5, .sl), (6, .sl), (7, .sl), (8, (.int .i64))] none [(5, .sl), (6, .sl), (7, .sl)] 0 (fun a h => corbellaw24_AskRuns.l0 k k (a.1) (a.2.1) (a.2.2.1) (a.2.2.2.1) (a.2.2.2.2.1) (a.2.2.2.2.2) h)), (Code.loop corbellaw24_AskRuns.c4092, lrun [(1, (.int .i64)), (5, .sl), (6, .sl), (7, .sl), (10, .sl), (11, (.int .i64))] (some [(4, .bool)]) [(10, .sl), (11, (.int .i64))] 2 (fun a h => corbellaw24_AskRuns.l1 k k (a.1) (a.2.1) (a.2.2.1) (a.2.2.2.1) (a.2.2.2.2.1) (a.2.2.2.2.2) h)), (Code.loop corbellaw24_AskRuns.c32762, lrun [(1, (.int .i64)), (6, .sl), (10, .sl), (11, (.int .i64)), (121, .sl), (122, (.int .i64)), (15, (.int .i64)), (123, (.int .i64))] none [(15, (.int .i64))] 4 (fun a h => corbellaw24_AskRuns.l2 k k (a.1) (a.2.1) (a.2.2.1) (a.2.2.2.1) (a.2.2.2.2.1) (a.2.2.2.2.2.1) (a.2.2.2.2.2.2.1) (a.2.2.2.2.2.2.2) h))] := by kernel_rfl
      rw [e]; intro q hq
      rcases List.mem_cons.1 hq with rfl | hq
      · exact corbellaw24_AskRuns.l0_pass hX hK12 k k
      rcases List.mem_cons.1 hq with rfl | hq
      · exact corbellaw24_AskRuns.l1_pass hX hK12 k k
      rcases List.mem_cons.1 hq with rfl | hq
      · exact corbellaw24_AskRuns.l2_pass hX hK12 k k
      cases hq)
    ((corbellaw24_AskRuns.eq k a h).symm.trans e)
/-! ### corbel/corbellaw24.AskBounds -/
noncomputable def corbellaw24_AskBounds.f (k : Nat) (a0 : (Int × Int × Int × Int × Int × Int × Sl)) (a1 : Int) (a2 : Int) (a3 : Int) (h : H) : Option ((Bool) × H) :=
  cond (!true)
      (some (false, (newR h 32 7 [(Value.int .i64 a0.1), (Value.int .i64 a0.2.1), (Value.int .i64 a0.2.2.1), (Value.int .i64 a0.2.2.2.1), (Value.int .u64 a0.2.2.2.2.1), (Value.int .u64 a0.2.2.2.2.2.1), (Value.slice a0.2.2.2.2.2.2.a a0.2.2.2.2.2.2.n a0.2.2.2.2.2.2.c)])))
      ((asSt [(.int .i64), (.int .i64), (.int .i64), (.int .i64), (.int .u64), (.int .u64), .sl] (lda 7 (newR h 32 7 [(Value.int .i64 a0.1), (Value.int .i64 a0.2.1), (Value.int .i64 a0.2.2.1), (Value.int .i64 a0.2.2.2.1), (Value.int .u64 a0.2.2.2.2.1), (Value.int .u64 a0.2.2.2.2.2.1), (Value.slice a0.2.2.2.2.2.2.a a0.2.2.2.2.2.2.n a0.2.2.2.2.2.2.c)]) (some ⟨h.next, 0, none⟩))).bind fun s1 =>
    (corbellaw24_of.f k (s1.1, s1.2.1, s1.2.2.1, s1.2.2.2.1, s1.2.2.2.2.1, s1.2.2.2.2.2.1, s1.2.2.2.2.2.2) (newR h 32 7 [(Value.int .i64 a0.1), (Value.int .i64 a0.2.1), (Value.int .i64 a0.2.2.1), (Value.int .i64 a0.2.2.2.1), (Value.int .u64 a0.2.2.2.2.1), (Value.int .u64 a0.2.2.2.2.2.1), (Value.slice a0.2.2.2.2.2.2.a a0.2.2.2.2.2.2.n a0.2.2.2.2.2.2.c)])).bind fun q2 =>
    (stv 6 (newR q2.2 29 6 [(Value.int .i64 (0 : Int)), (Value.int .i64 (0 : Int)), (Value.int .u64 (0 : Int)), (Value.int .u64 (0 : Int)), (Value.int .i64 (0 : Int)), (Value.slice none 0 0)]) (some ⟨q2.2.next, 0, none⟩) [(Value.int .i64 q2.1.1), (Value.int .i64 q2.1.2.1), (Value.int .u64 q2.1.2.2.1), (Value.int .u64 q2.1.2.2.2.1), (Value.int .i64 q2.1.2.2.2.2.1), (Value.slice q2.1.2.2.2.2.2.a q2.1.2.2.2.2.2.n q2.1.2.2.2.2.2.c)]).bind fun q3 =>
    (asI .i64 (ldc q3.2 (some ⟨q2.2.next, 1, none⟩))).bind fun n4 =>
    (corbelhand_Pick.f k n4 (8 : Int) q3.2).bind fun q5 =>
    (stv 1 q5.2 (some ⟨q2.2.next, 1, none⟩) [(Value.int .i64 q5.1)]).bind fun q6 =>
    (asI .i64 (ldc q6.2 (some ⟨q2.2.next, 0, none⟩))).bind fun n7 =>
    (corbelhand_Pick.f k n7 (4 : Int) q6.2).bind fun q8 =>
    (stv 1 q8.2 (some ⟨q2.2.next, 0, none⟩) [(Value.int .i64 q8.1)]).bind fun q9 =>
    (asI .i64 (ldc q9.2 (some ⟨q2.2.next, 4, none⟩))).bind fun n10 =>
    (corbelhand_Pick.f k n10 (200 : Int) q9.2).bind fun q11 =>
    (stv 1 q11.2 (some ⟨q2.2.next, 4, none⟩) [(Value.int .i64 q11.1)]).bind fun q12 =>
    (stv 1 q12.2 (some ⟨q2.2.next, 5, none⟩) [(Value.slice none 0 0)]).bind fun q13 =>
    (asI .i64 (ldc q13.2 (some ⟨q2.2.next, 1, none⟩))).bind fun n14 =>
    (cond (n14 == (1 : Int))
      ((asI .i64 (ldc q13.2 (some ⟨q2.2.next, 4, none⟩))).bind fun n15 =>
    (corbelhand_Bytes.f k a1 n15 q13.2).bind fun q16 =>
    (stv 1 q16.2 (some ⟨q2.2.next, 5, none⟩) [(Value.slice q16.1.a q16.1.n q16.1.c)]).bind fun q17 =>
    some ((), q17.2))
      (some ((), q13.2)) : Option ((Unit) × H)).bind fun j18 =>
    (asSt [(.int .i64), (.int .i64), (.int .u64), (.int .u64), (.int .i64), .sl] (lda 6 j18.2 (some ⟨q2.2.next, 0, none⟩))).bind fun s19 =>
    (ask_Lay.f k (s19.1, s19.2.1, s19.2.2.1, s19.2.2.2.1, s19.2.2.2.2.1, s19.2.2.2.2.2) j18.2).bind fun q20 =>
    (asI .i64 (ldc q20.2 (some ⟨q2.2.next, 1, none⟩))).bind fun n21 =>
    (cond (n21 == (1 : Int))
      ((asI .i64 (ldc q20.2 (some ⟨q2.2.next, 4, none⟩))).bind fun n22 =>
    some (wrapA .i64 ((28 : Int) + n22), q20.2))
      (some ((28 : Int), q20.2)) : Option ((Int) × H)).bind fun j23 =>
    cond ((Int.ofNat q20.1.n) != j23.1)
      (some (false, j23.2))
      ((corbelhand_Pick.f k a1 j23.1 j23.2).bind fun q24 =>
    (asS (subs 1 (Value.slice q20.1.a q20.1.n q20.1.c) none (some q24.1))).bind fun s25 =>
    (ask_Next.f k s25 q24.2).bind fun q26 =>
    (stv 6 (newR q26.2 29 6 [(Value.int .i64 (0 : Int)), (Value.int .i64 (0 : Int)), (Value.int .u64 (0 : Int)), (Value.int .u64 (0 : Int)), (Value.int .i64 (0 : Int)), (Value.slice none 0 0)]) (some ⟨q26.2.next, 0, none⟩) [(Value.int .i64 q26.1.1.1), (Value.int .i64 q26.1.1.2.1), (Value.int .u64 q26.1.1.2.2.1), (Value.int .u64 q26.1.1.2.2.2.1), (Value.int .i64 q26.1.1.2.2.2.2.1), (Value.slice q26.1.1.2.2.2.2.2.a q26.1.1.2.2.2.2.2.n q26.1.1.2.2.2.2.2.c)]).bind fun q27 =>
    (asS2 (apv 5 1 1 (Value.slice (some ⟨q27.2.next, 0, none⟩) 0 0) (Value.slice q20.1.a q20.1.n q20.1.c) (newR q27.2 5 1 []))).bind fun q28 =>
    (asS2 (apv 5 1 1 (Value.slice q28.1.a q28.1.n q28.1.c) (Value.slice (some ⟨q28.2.next, 0, none⟩) 3 3) (newR q28.2 5 1 [(Value.int .u8 (1 : Int)), (Value.int .u8 (2 : Int)), (Value.int .u8 (3 : Int))]))).bind fun q29 =>
    (ask_Next.f k q29.1 q29.2).bind fun q30 =>
    (stv 6 (newR q30.2 29 6 [(Value.int .i64 (0 : Int)), (Value.int .i64 (0 : Int)), (Value.int .u64 (0 : Int)), (Value.int .u64 (0 : Int)), (Value.int .i64 (0 : Int)), (Value.slice none 0 0)]) (some ⟨q30.2.next, 0, none⟩) [(Value.int .i64 q30.1.1.1), (Value.int .i64 q30.1.1.2.1), (Value.int .u64 q30.1.1.2.2.1), (Value.int .u64 q30.1.1.2.2.2.1), (Value.int .i64 q30.1.1.2.2.2.2.1), (Value.slice q30.1.1.2.2.2.2.2.a q30.1.1.2.2.2.2.2.n q30.1.1.2.2.2.2.2.c)]).bind fun q31 =>
    (cond (q26.1.2.2 != (7 : Int)) (some (true, q31.2))
      (some (q26.1.2.1 != (0 : Int), q31.2))).bind fun g32 =>
    (cond g32.1 (some (true, g32.2))
      (some (q30.1.2.2 != (0 : Int), g32.2))).bind fun g33 =>
    (cond g33.1 (some (true, g33.2))
      (some (q30.1.2.1 != j23.1, g33.2))).bind fun g34 =>
    (cond g34.1 (some (true, g34.2))
      ((asSt [(.int .i64), (.int .i64), (.int .u64), (.int .u64), (.int .i64), .sl] (lda 6 g34.2 (some ⟨q30.2.next, 0, none⟩))).bind fun s35 =>
    (asSt [(.int .i64), (.int .i64), (.int .u64), (.int .u64), (.int .i64), .sl] (lda 6 g34.2 (some ⟨q2.2.next, 0, none⟩))).bind fun s36 =>
    (corbellaw24_same.f k (s35.1, s35.2.1, s35.2.2.1, s35.2.2.2.1, s35.2.2.2.2.1, s35.2.2.2.2.2) (s36.1, s36.2.1, s36.2.2.1, s36.2.2.2.1, s36.2.2.2.2.1, s36.2.2.2.2.2) g34.2).bind fun q37 =>
    some (!q37.1, q37.2))).bind fun g38 =>
    cond g38.1
      (some (false, g38.2))
      (cond (a2 == (0 : Int))
      (some (true, g38.2))
      ((asS2 (apv 5 1 1 (Value.slice (some ⟨g38.2.next, 0, none⟩) 0 0) (Value.slice q20.1.a q20.1.n q20.1.c) (newR g38.2 5 1 []))).bind fun q39 =>
    (corbelhand_Pick.f k a3 (4 : Int) q39.2).bind fun q40 =>
    (asP (ixs 1 q39.1.a q39.1.n q40.1)).bind fun p41 =>
    (asI .u8 (ldc q40.2 p41)).bind fun n42 =>
    (asI .u8 (intA .xor .u8 n42 a2)).bind fun n43 =>
    (asP (ixs 1 q39.1.a q39.1.n q40.1)).bind fun p44 =>
    (stv 1 q40.2 p44 [(Value.int .u8 n43)]).bind fun q45 =>
    (asS (subs 1 (Value.slice q39.1.a q39.1.n q39.1.c) none (some (4 : Int)))).bind fun s46 =>
    (ask_Next.f k s46 q45.2).bind fun q47 =>
    (stv 6 (newR q47.2 29 6 [(Value.int .i64 (0 : Int)), (Value.int .i64 (0 : Int)), (Value.int .u64 (0 : Int)), (Value.int .u64 (0 : Int)), (Value.int .i64 (0 : Int)), (Value.slice none 0 0)]) (some ⟨q47.2.next, 0, none⟩) [(Value.int .i64 q47.1.1.1), (Value.int .i64 q47.1.1.2.1), (Value.int .u64 q47.1.1.2.2.1), (Value.int .u64 q47.1.1.2.2.2.1), (Value.int .i64 q47.1.1.2.2.2.2.1), (Value.slice q47.1.1.2.2.2.2.2.a q47.1.1.2.2.2.2.2.n q47.1.1.2.2.2.2.2.c)]).bind fun q48 =>
    (ask_Next.f k q39.1 q48.2).bind fun q49 =>
    (stv 6 (newR q49.2 29 6 [(Value.int .i64 (0 : Int)), (Value.int .i64 (0 : Int)), (Value.int .u64 (0 : Int)), (Value.int .u64 (0 : Int)), (Value.int .i64 (0 : Int)), (Value.slice none 0 0)]) (some ⟨q49.2.next, 0, none⟩) [(Value.int .i64 q49.1.1.1), (Value.int .i64 q49.1.1.2.1), (Value.int .u64 q49.1.1.2.2.1), (Value.int .u64 q49.1.1.2.2.2.1), (Value.int .i64 q49.1.1.2.2.2.2.1), (Value.slice q49.1.1.2.2.2.2.2.a q49.1.1.2.2.2.2.2.n q49.1.1.2.2.2.2.2.c)]).bind fun q50 =>
    (asS (subs 1 (Value.slice q39.1.a q39.1.n q39.1.c) none (some (3 : Int)))).bind fun s51 =>
    (ask_Next.f k s51 q50.2).bind fun q52 =>
    (stv 6 (newR q52.2 29 6 [(Value.int .i64 (0 : Int)), (Value.int .i64 (0 : Int)), (Value.int .u64 (0 : Int)), (Value.int .u64 (0 : Int)), (Value.int .i64 (0 : Int)), (Value.slice none 0 0)]) (some ⟨q52.2.next, 0, none⟩) [(Value.int .i64 q52.1.1.1), (Value.int .i64 q52.1.1.2.1), (Value.int .u64 q52.1.1.2.2.1), (Value.int .u64 q52.1.1.2.2.2.1), (Value.int .i64 q52.1.1.2.2.2.2.1), (Value.slice q52.1.1.2.2.2.2.2.a q52.1.1.2.2.2.2.2.n q52.1.1.2.2.2.2.2.c)]).bind fun q53 =>
    (cond (q47.1.2.2 == (2 : Int)) (some (q49.1.2.2 == (2 : Int), q53.2))
      (some (false, q53.2))).bind fun g54 =>
    (cond g54.1 (some (q52.1.2.2 == (7 : Int), g54.2))
      (some (false, g54.2))).bind fun g55 =>
    some (g55.1, g55.2)))))
noncomputable def corbellaw24_AskBounds.T (k : Nat) : Tbl := tblOf [⟨12, anyArgs, knownW⟩,
  ⟨13, anyArgs, wr [(.st [(.int .i64), (.int .i64), (.int .i64), (.int .i64), (.int .u64), (.int .u64), .sl])] [(.st [(.int .i64), (.int .i64), (.int .u64), (.int .u64), (.int .i64), .sl])] (fun a h => corbellaw24_of.f k a h)⟩,
  ⟨14, anyArgs, wr [(.int .i64), (.int .i64)] [(.int .i64)] (fun a h => corbelhand_Pick.f k (a.1) (a.2) h)⟩,
  ⟨15, anyArgs, wr [(.int .i64), (.int .i64)] [.sl] (fun a h => corbelhand_Bytes.f k (a.1) (a.2) h)⟩,
  ⟨16, anyArgs, wr [(.st [(.int .i64), (.int .i64), (.int .u64), (.int .u64), (.int .i64), .sl])] [.sl] (fun a h => ask_Lay.f k a h)⟩,
  ⟨17, anyArgs, wr [.sl] [(.st [(.int .i64), (.int .i64), (.int .u64), (.int .u64), (.int .i64), .sl]), (.int .i64), (.int .i64)] (fun a h => ask_Next.f k a h)⟩,
  ⟨18, anyArgs, wr [(.st [(.int .i64), (.int .i64), (.int .u64), (.int .u64), (.int .i64), .sl]), (.st [(.int .i64), (.int .i64), (.int .u64), (.int .u64), (.int .i64), .sl])] [.bool] (fun a h => corbellaw24_same.f k (a.1) (a.2) h)⟩]
noncomputable def corbellaw24_AskBounds.an (k : Nat) (p : Nat) : Option Ann := cond (Nat.beq p 8189) (some (.join [1, 2, 3, 9, 10] none [(11, (.int .i64))]))
  (cond (Nat.beq p 1021) (some (.join [1, 2, 3, 9] none []))
  (none))
noncomputable def corbellaw24_AskBounds.body : Code := (Try.f4.body).getD .skip
set_option maxRecDepth 100000 in
theorem corbellaw24_AskBounds.TS {C : FuncId → Bool} {X : CallF} (hX : XOk C X) (hK12 : KOk X 12) (k : Nat) : TblS Try.prog C X (corbellaw24_AskBounds.T k) := by
  refine tblOf_sound ?_
  intro e he
  rcases List.mem_cons.1 he with rfl | he
  · exact knownW_told hK12
  rcases List.mem_cons.1 he with rfl | he
  · exact wr_told (corbellaw24_of.told hX k)
  rcases List.mem_cons.1 he with rfl | he
  · exact wr_told (corbelhand_Pick.told hX k)
  rcases List.mem_cons.1 he with rfl | he
  · exact wr_told (corbelhand_Bytes.told hX k)
  rcases List.mem_cons.1 he with rfl | he
  · exact wr_told (ask_Lay.told hX k)
  rcases List.mem_cons.1 he with rfl | he
  · exact wr_told (ask_Next.told hX k)
  rcases List.mem_cons.1 he with rfl | he
  · exact wr_told (corbellaw24_same.told hX k)
  exact absurd he List.not_mem_nil
set_option maxRecDepth 100000 in
theorem corbellaw24_AskBounds.eq (k : Nat) (a : RT [(.st [(.int .i64), (.int .i64), (.int .i64), (.int .i64), (.int .u64), (.int .u64), .sl]), (.int .i64), (.int .u8), (.int .i64)]) (h : H) : (fun a h => corbellaw24_AskBounds.f k (a.1) (a.2.1) (a.2.2.1) (a.2.2.2) h) a h = kfun Try.prog (corbellaw24_AskBounds.T k) (corbellaw24_AskBounds.an k) (RT [.bool] × H) Try.f4 (encL [(.st [(.int .i64), (.int .i64), (.int .i64), (.int .i64), (.int .u64), (.int .u64), .sl]), (.int .i64), (.int .u8), (.int .i64)] a) h (fun vs h' => (decL [.bool] vs).bind fun x => some (x, h')) := by kernel_rfl
set_option maxRecDepth 100000 in
theorem corbellaw24_AskBounds.told {C : FuncId → Bool} {X : CallF} (hX : XOk C X) (hK12 : KOk X 12) (k : Nat) : Den.Told Try.prog C X 4 [(.st [(.int .i64), (.int .i64), (.int .i64), (.int .i64), (.int .u64), (.int .u64), .sl]), (.int .i64), (.int .u8), (.int .i64)] [.bool] (fun a h => corbellaw24_AskBounds.f k (a.1) (a.2.1) (a.2.2.1) (a.2.2.2) h) :=
  told_of fun a h q e => fn_of (c := corbellaw24_AskBounds.body) (corbellaw24_AskBounds.TS hX hK12 k) Try.func4 (by kernel_rfl) (hX.no 4 _ h (by decide))
    (by
      have e : need (corbellaw24_AskBounds.an k) corbellaw24_AskBounds.body 1 = [] := by kernel_rfl
      rw [e]; intro q hq; cases hq)
    ((corbellaw24_AskBounds.eq k a h).symm.trans e)
end Go.Proofs.Ythpkhegoamhgeaa.Fwd
