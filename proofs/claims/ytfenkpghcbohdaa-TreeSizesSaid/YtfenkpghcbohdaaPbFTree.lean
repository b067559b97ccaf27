/- Forward runs of functions of the program, printed by a program of this session: each function on plain values and memory, and that the code comes to it. No condition. -/
import Derived.Test.YtfenkpghcbohdaaDenCmp
import Derived.KernelRfl
import Derived.Test.YtfenkpghcbohdaaPbFIns
import Derived.Test.YtfenkpghcbohdaaPbFKn38
import Derived.Test.YtfenkpghcbohdaaPbFKn49
import Derived.Test.YtfenkpghcbohdaaPbFMeta
import Derived.Test.YtfenkpghcbohdaaPbFRoot
namespace Go.Proofs.Ytfenkpghcbohdaa.Fwd
open Go Den
set_option linter.unusedVariables false
/-! ### corbel/corbelref16.Copied -/
/-! ### corbel/corbelhand.Size -/
/-! ### corbel/tree.Resize -/
noncomputable def tree_Resize.f (k : Nat) (a0 : Sl) (a1 : ByteArray) (a2 : Int) (h : H) : Option ((Sl × Int) × H) :=
  (tree_Right.f k a0 h).bind fun q1 =>
    cond (!q1.1)
      (some (((⟨none, 0, 0⟩ : Sl), (1 : Int)), q1.2))
      ((tree_Find.f k a0 a1 q1.2).bind fun q2 =>
    (stv 5 (newR q2.2 58 5 [(Value.string (⟨#[]⟩ : ByteArray)), (Value.string (⟨#[]⟩ : ByteArray)), (Value.bool false), (Value.int .i64 (0 : Int)), (Value.slice none 0 0)]) (some ⟨q2.2.next, 0, none⟩) [(Value.string q2.1.1.1), (Value.string q2.1.1.2.1), (Value.bool q2.1.1.2.2.1), (Value.int .i64 q2.1.1.2.2.2.1), (Value.slice q2.1.1.2.2.2.2.a q2.1.1.2.2.2.2.n q2.1.1.2.2.2.2.c)]).bind fun q3 =>
    (asS (ldc q3.2 (some ⟨q2.2.next, 4, none⟩))).bind fun s4 =>
    (extent_Sized.f k s4 a2 q3.2).bind fun q5 =>
    cond (!q2.1.2)
      (some (((⟨none, 0, 0⟩ : Sl), (7 : Int)), q5.2))
      ((asB (ldc q5.2 (some ⟨q2.2.next, 2, none⟩))).bind fun b6 =>
    cond b6
      (some (((⟨none, 0, 0⟩ : Sl), (10 : Int)), q5.2))
      ((extent_Right.f k a2 q5.1.1 q5.2).bind fun q7 =>
    cond (!q7.1)
      (some (((⟨none, 0, 0⟩ : Sl), (1 : Int)), q7.2))
      ((tree_all.f k a0 q7.2).bind fun q8 =>
    (tree_at.f k a0 a1 q8.2).bind fun q9 =>
    (asP (ixs 5 q8.1.a q8.1.n q9.1.1)).bind fun p10 =>
    (asP (fadd 3 p10)).bind fun p11 =>
    (stv 1 q9.2 p11 [(Value.int .i64 a2)]).bind fun q12 =>
    (asP (ixs 5 q8.1.a q8.1.n q9.1.1)).bind fun p13 =>
    (asP (fadd 4 p13)).bind fun p14 =>
    (stv 1 q12.2 p14 [(Value.slice q5.1.1.a q5.1.1.n q5.1.1.c)]).bind fun q15 =>
    some ((q8.1, (0 : Int)), q15.2)))))
noncomputable def tree_Resize.T (k : Nat) : Tbl := tblOf [⟨56, anyArgs, wr [.sl] [.bool] (fun a h => tree_Right.f k a h)⟩,
  ⟨64, anyArgs, wr [.sl, .str] [(.st [.str, .str, .bool, (.int .i64), .sl]), .bool] (fun a h => tree_Find.f k (a.1) (a.2) h)⟩,
  ⟨26, anyArgs, wr [.sl, (.int .i64)] [.sl, .sl] (fun a h => extent_Sized.f k (a.1) (a.2) h)⟩,
  ⟨30, anyArgs, wr [(.int .i64), .sl] [.bool] (fun a h => extent_Right.f k (a.1) (a.2) h)⟩,
  ⟨91, anyArgs, wr [.sl] [.sl] (fun a h => tree_all.f k a h)⟩,
  ⟨92, anyArgs, wr [.sl, .str] [(.int .i64), .bool] (fun a h => tree_at.f k (a.1) (a.2) h)⟩]
noncomputable def tree_Resize.an (k : Nat) (p : Nat) : Option Ann := none
noncomputable def tree_Resize.body : Code := (Try.f55.body).getD .skip
set_option maxRecDepth 100000 in
theorem tree_Resize.TS {C : FuncId → Bool} {X : CallF} (hX : XOk C X) (hK114 : CmpOk X 114) (k : Nat) : TblS Try.prog C X (tree_Resize.T k) := by
  refine tblOf_sound ?_
  intro e he
  rcases List.mem_cons.1 he with rfl | he
  · exact wr_told (tree_Right.told hX hK114 k)
  rcases List.mem_cons.1 he with rfl | he
  · exact wr_told (tree_Find.told hX k)
  rcases List.mem_cons.1 he with rfl | he
  · exact wr_told (extent_Sized.told hX k)
  rcases List.mem_cons.1 he with rfl | he
  · exact wr_told (extent_Right.told hX k)
  rcases List.mem_cons.1 he with rfl | he
  · exact wr_told (tree_all.told hX k)
  rcases List.mem_cons.1 he with rfl | he
  · exact wr_told (tree_at.told hX hK114 k)
  exact absurd he List.not_mem_nil
set_option maxRecDepth 100000 in
theorem tree_Resize.eq (k : Nat) (a : RT [.sl, .str, (.int .i64)]) (h : H) : (fun a h => tree_Resize.f k (a.1) (a.2.1) (a.2.2) h) a h = kfun Try.prog (tree_Resize.T k) (tree_Resize.an k) (RT [.sl, (.int .i64)] × H) Try.f55 (encL [.sl, .str, (.int .i64)] a) h (fun vs h' => (decL [.sl, (.int .i64)] vs).bind fun x => some (x, h')) := by kernel_rfl
set_option maxRecDepth 100000 in
theorem tree_Resize.told {C : FuncId → Bool} {X : CallF} (hX : XOk C X) (hK114 : CmpOk X 114) (k : Nat) : Den.Told Try.prog C X 55 [.sl, .str, (.int .i64)] [.sl, (.int .i64)] (fun a h => tree_Resize.f k (a.1) (a.2.1) (a.2.2) h) :=
  told_of fun a h q e => fn_of (c := tree_Resize.body) (tree_Resize.TS hX hK114 k) Try.func55 (by kernel_rfl) (hX.no 55 _ h (by decide))
    (by
      have e : need (tree_Resize.an k) tree_Resize.body 1 = [] := by kernel_rfl
      rw [e]; intro q hq; cases hq)
    ((tree_Resize.eq k a h).symm.trans e)
/-! ### corbel/corbellaw18.TreeApart -/
/-! ### corbel/corbellaw18.TreeSizes -/
noncomputable def corbellaw18_TreeSizes.l2 (k : Nat) (n : Nat) : Sl → Sl → Int → Sl → Int → Int → H → Option (((Bool) ⊕ (Unit)) × H) :=
  Nat.rec (motive := fun _ => Sl → Sl → Int → Sl → Int → Int → H → Option (((Bool) ⊕ (Unit)) × H)) (fun _ _ _ _ _ _ _ => none) (fun _ ih x53 x54 x55 x56 x57 x58 h59 => cond (decide (x58 < x57))
      ((cond (decide (x58 < (Int.ofNat x54.n)))
      ((asP (ixs 1 x54.a x54.n x58)).bind fun p60 =>
    (asI .i64 (ldc h59 p60)).bind fun n61 =>
    some (n61, h59))
      (some ((0 : Int), h59)) : Option ((Int) × H)).bind fun j62 =>
    (asP (ixs 5 x56.a x56.n (0 : Int))).bind fun p63 =>
    (asP (fadd 4 p63)).bind fun p64 =>
    (asS (ldc j62.2 p64)).bind fun s65 =>
    (asP (ixs 1 s65.a s65.n x58)).bind fun p66 =>
    (asI .i64 (ldc j62.2 p66)).bind fun n67 =>
    cond (n67 != j62.1)
      (some (Sum.inl false, j62.2))
      (ih x53 x54 x55 x56 x57 (wrapA .i64 (x58 + (1 : Int))) j62.2))
      (some (Sum.inr (), h59))) n
theorem corbellaw18_TreeSizes.l2_zero (k : Nat) (x53 : Sl) (x54 : Sl) (x55 : Int) (x56 : Sl) (x57 : Int) (x58 : Int) (h59 : H) : corbellaw18_TreeSizes.l2 k 0 x53 x54 x55 x56 x57 x58 h59 = none := rfl
theorem corbellaw18_TreeSizes.l2_succ (k n : Nat) (x53 : Sl) (x54 : Sl) (x55 : Int) (x56 : Sl) (x57 : Int) (x58 : Int) (h59 : H) : corbellaw18_TreeSizes.l2 k (n + 1) x53 x54 x55 x56 x57 x58 h59 = (cond (decide (x58 < x57))
      ((cond (decide (x58 < (Int.ofNat x54.n)))
      ((asP (ixs 1 x54.a x54.n x58)).bind fun p60 =>
    (asI .i64 (ldc h59 p60)).bind fun n61 =>
    some (n61, h59))
      (some ((0 : Int), h59)) : Option ((Int) × H)).bind fun j62 =>
    (asP (ixs 5 x56.a x56.n (0 : Int))).bind fun p63 =>
    (asP (fadd 4 p63)).bind fun p64 =>
    (asS (ldc j62.2 p64)).bind fun s65 =>
    (asP (ixs 1 s65.a s65.n x58)).bind fun p66 =>
    (asI .i64 (ldc j62.2 p66)).bind fun n67 =>
    cond (n67 != j62.1)
      (some (Sum.inl false, j62.2))
      (corbellaw18_TreeSizes.l2 k n x53 x54 x55 x56 x57 (wrapA .i64 (x58 + (1 : Int))) j62.2))
      (some (Sum.inr (), h59))) := rfl
noncomputable def corbellaw18_TreeSizes.l1 (k : Nat) (n : Nat) : Sl → Sl → Sl → Int → H → Option (((Bool) ⊕ (Unit)) × H) :=
  Nat.rec (motive := fun _ => Sl → Sl → Sl → Int → H → Option (((Bool) ⊕ (Unit)) × H)) (fun _ _ _ _ _ => none) (fun _ ih x30 x31 x32 x33 h34 => (cond (decide (x33 < (Int.ofNat x30.n))) (some (decide (x33 < (20 : Int)), h34))
      (some (false, h34))).bind fun g35 =>
    cond g35.1
      ((asP (ixs 1 x30.a x30.n x33)).bind fun p36 =>
    (asI .i64 (ldc g35.2 p36)).bind fun n37 =>
    (corbelhand_Pick.f k n37 (33 : Int) g35.2).bind fun q38 =>
    (tree_Resize.f k x31 (⟨#[118]⟩ : ByteArray) (wrapA .i64 (q38.1 * (8 : Int))) q38.2).bind fun q39 =>
    (cond (q39.1.2 != (0 : Int)) (some (true, q39.2))
      (some ((Int.ofNat q39.1.1.n) != (1 : Int), q39.2))).bind fun g40 =>
    (cond g40.1 (some (true, g40.2))
      ((asP (ixs 5 q39.1.1.a q39.1.1.n (0 : Int))).bind fun p41 =>
    (asP (fadd 4 p41)).bind fun p42 =>
    (asS (ldc g40.2 p42)).bind fun s43 =>
    some ((Int.ofNat s43.n) != q38.1, g40.2))).bind fun g44 =>
    (cond g44.1 (some (true, g44.2))
      ((asP (ixs 5 q39.1.1.a q39.1.1.n (0 : Int))).bind fun p45 =>
    (asP (fadd 3 p45)).bind fun p46 =>
    (asI .i64 (ldc g44.2 p46)).bind fun n47 =>
    some (n47 != (wrapA .i64 (q38.1 * (8 : Int))), g44.2))).bind fun g48 =>
    cond g48.1
      (some (Sum.inl false, g48.2))
      ((asS (subs 1 (Value.slice x32.a x32.n x32.c) none (some (cond (decide (q38.1 < (Int.ofNat x32.n))) q38.1 (Int.ofNat x32.n))))).bind fun s49 =>
    (asP (ixs 5 q39.1.1.a q39.1.1.n (0 : Int))).bind fun p50 =>
    (asP (fadd 4 p50)).bind fun p51 =>
    (asS (ldc g48.2 p51)).bind fun s52 =>
    (corbellaw18_TreeSizes.l2 k k x30 s49 x33 q39.1.1 (Int.ofNat s52.n) (0 : Int) g48.2).bind fun w68 =>
    match w68.1 with
    | .inl r69 => some (Sum.inl r69, w68.2)
    | .inr o70 => ih x30 q39.1.1 s49 (wrapA .i64 (x33 + (1 : Int))) w68.2))
      (some (Sum.inr (), g35.2))) n
theorem corbellaw18_TreeSizes.l1_zero (k : Nat) (x30 : Sl) (x31 : Sl) (x32 : Sl) (x33 : Int) (h34 : H) : corbellaw18_TreeSizes.l1 k 0 x30 x31 x32 x33 h34 = none := rfl
theorem corbellaw18_TreeSizes.l1_succ (k n : Nat) (x30 : Sl) (x31 : Sl) (x32 : Sl) (x33 : Int) (h34 : H) : corbellaw18_TreeSizes.l1 k (n + 1) x30 x31 x32 x33 h34 = ((cond (decide (x33 < (Int.ofNat x30.n))) (some (decide (x33 < (20 : Int)), h34))
      (some (false, h34))).bind fun g35 =>
    cond g35.1
      ((asP (ixs 1 x30.a x30.n x33)).bind fun p36 =>
    (asI .i64 (ldc g35.2 p36)).bind fun n37 =>
    (corbelhand_Pick.f k n37 (33 : Int) g35.2).bind fun q38 =>
    (tree_Resize.f k x31 (⟨#[118]⟩ : ByteArray) (wrapA .i64 (q38.1 * (8 : Int))) q38.2).bind fun q39 =>
    (cond (q39.1.2 != (0 : Int)) (some (true, q39.2))
      (some ((Int.ofNat q39.1.1.n) != (1 : Int), q39.2))).bind fun g40 =>
    (cond g40.1 (some (true, g40.2))
      ((asP (ixs 5 q39.1.1.a q39.1.1.n (0 : Int))).bind fun p41 =>
    (asP (fadd 4 p41)).bind fun p42 =>
    (asS (ldc g40.2 p42)).bind fun s43 =>
    some ((Int.ofNat s43.n) != q38.1, g40.2))).bind fun g44 =>
    (cond g44.1 (some (true, g44.2))
      ((asP (ixs 5 q39.1.1.a q39.1.1.n (0 : Int))).bind fun p45 =>
    (asP (fadd 3 p45)).bind fun p46 =>
    (asI .i64 (ldc g44.2 p46)).bind fun n47 =>
    some (n47 != (wrapA .i64 (q38.1 * (8 : Int))), g44.2))).bind fun g48 =>
    cond g48.1
      (some (Sum.inl false, g48.2))
      ((asS (subs 1 (Value.slice x32.a x32.n x32.c) none (some (cond (decide (q38.1 < (Int.ofNat x32.n))) q38.1 (Int.ofNat x32.n))))).bind fun s49 =>
    (asP (ixs 5 q39.1.1.a q39.1.1.n (0 : Int))).bind fun p50 =>
    (asP (fadd 4 p50)).bind fun p51 =>
    (asS (ldc g48.2 p51)).bind fun s52 =>
    (corbellaw18_TreeSizes.l2 k k x30 s49 x33 q39.1.1 (Int.ofNat s52.n) (0 : Int) g48.2).bind fun w68 =>
    match w68.1 with
    | .inl r69 => some (Sum.inl r69, w68.2)
    | .inr o70 => corbellaw18_TreeSizes.l1 k n x30 q39.1.1 s49 (wrapA .i64 (x33 + (1 : Int))) w68.2))
      (some (Sum.inr (), g35.2))) := rfl
noncomputable def corbellaw18_TreeSizes.l0 (k : Nat) (n : Nat) : Sl → Sl → Sl → Int → Int → H → Option ((Unit) × H) :=
  Nat.rec (motive := fun _ => Sl → Sl → Sl → Int → Int → H → Option ((Unit) × H)) (fun _ _ _ _ _ _ => none) (fun _ ih x11 x12 x13 x14 x15 h16 => cond (decide (x15 < x14))
      ((asP (ixs 5 x13.a x13.n (0 : Int))).bind fun p17 =>
    (asP (fadd 4 p17)).bind fun p18 =>
    (asS (ldc h16 p18)).bind fun s19 =>
    (asP (ixs 1 x11.a x11.n x15)).bind fun p20 =>
    (asI .i64 (ldc h16 p20)).bind fun n21 =>
    (corbelhand_Pick.f k n21 (20 : Int) h16).bind fun q22 =>
    (asP (ixs 1 s19.a s19.n x15)).bind fun p23 =>
    (stv 1 q22.2 p23 [(Value.int .i64 (wrapA .i64 ((17 : Int) + q22.1)))]).bind fun q24 =>
    cond (same1 h16 q22.2 (some (Value.pointer p18)) && (true)) (ih x11 x12 x13 x14 (wrapA .i64 (x15 + (1 : Int))) q24.2) none)
      (some ((), h16))) n
theorem corbellaw18_TreeSizes.l0_zero (k : Nat) (x11 : Sl) (x12 : Sl) (x13 : Sl) (x14 : Int) (x15 : Int) (h16 : H) : corbellaw18_TreeSizes.l0 k 0 x11 x12 x13 x14 x15 h16 = none := rfl
theorem corbellaw18_TreeSizes.l0_succ (k n : Nat) (x11 : Sl) (x12 : Sl) (x13 : Sl) (x14 : Int) (x15 : Int) (h16 : H) : corbellaw18_TreeSizes.l0 k (n + 1) x11 x12 x13 x14 x15 h16 = (cond (decide (x15 < x14))
      ((asP (ixs 5 x13.a x13.n (0 : Int))).bind fun p17 =>
    (asP (fadd 4 p17)).bind fun p18 =>
    (asS (ldc h16 p18)).bind fun s19 =>
    (asP (ixs 1 x11.a x11.n x15)).bind fun p20 =>
    (asI .i64 (ldc h16 p20)).bind fun n21 =>
    (corbelhand_Pick.f k n21 (20 : Int) h16).bind fun q22 =>
    (asP (ixs 1 s19.a s19.n x15)).bind fun p23 =>
    (stv 1 q22.2 p23 [(Value.int .i64 (wrapA .i64 ((17 : Int) + q22.1)))]).bind fun q24 =>
    cond (same1 h16 q22.2 (some (Value.pointer p18)) && (true)) (corbellaw18_TreeSizes.l0 k n x11 x12 x13 x14 (wrapA .i64 (x15 + (1 : Int))) q24.2) none)
      (some ((), h16))) := rfl
noncomputable def corbellaw18_TreeSizes.f (k : Nat) (a0 : Sl) (a1 : Sl) (h : H) : Option ((Bool) × H) :=
  cond (!true)
      (some (false, h))
      ((asS (subs 1 (Value.slice a0.a a0.n a0.c) none (some (cond (decide ((20 : Int) < (Int.ofNat a0.n))) (20 : Int) (Int.ofNat a0.n))))).bind fun s1 =>
    (tree_Create.f k (⟨none, 0, 0⟩ : Sl) (⟨#[118]⟩ : ByteArray) (wrapA .i64 ((8 : Int) * (Int.ofNat s1.n))) h).bind fun q2 =>
    (cond (q2.1.2 != (0 : Int)) (some (true, q2.2))
      (some ((Int.ofNat q2.1.1.n) != (1 : Int), q2.2))).bind fun g3 =>
    (cond g3.1 (some (true, g3.2))
      ((asP (ixs 5 q2.1.1.a q2.1.1.n (0 : Int))).bind fun p4 =>
    (asP (fadd 4 p4)).bind fun p5 =>
    (asS (ldc g3.2 p5)).bind fun s6 =>
    some ((Int.ofNat s6.n) != (cond (decide ((20 : Int) < (Int.ofNat a0.n))) (20 : Int) (Int.ofNat a0.n)), g3.2))).bind fun g7 =>
    cond g7.1
      (some (false, g7.2))
      ((asP (ixs 5 q2.1.1.a q2.1.1.n (0 : Int))).bind fun p8 =>
    (asP (fadd 4 p8)).bind fun p9 =>
    (asS (ldc g7.2 p9)).bind fun s10 =>
    (corbellaw18_TreeSizes.l0 k k a0 a1 q2.1.1 (Int.ofNat s10.n) (0 : Int) g7.2).bind fun w25 =>
    (asP (ixs 5 q2.1.1.a q2.1.1.n (0 : Int))).bind fun p26 =>
    (asP (fadd 4 p26)).bind fun p27 =>
    (asS (ldc (newR w25.2 3 1 []) p27)).bind fun s28 =>
    (asS2 (apv 3 1 8 (Value.slice (some ⟨w25.2.next, 0, none⟩) 0 0) (Value.slice s28.a s28.n s28.c) (newR w25.2 3 1 []))).bind fun q29 =>
    (corbellaw18_TreeSizes.l1 k k a1 q2.1.1 q29.1 (0 : Int) q29.2).bind fun w71 =>
    match w71.1 with
    | .inl r72 => some (r72, w71.2)
    | .inr o73 => some (true, w71.2)))
noncomputable def corbellaw18_TreeSizes.T (k : Nat) : Tbl := tblOf [⟨49, anyArgs, knownW⟩,
  ⟨51, anyArgs, wr [.sl, .str, (.int .i64)] [.sl, (.int .i64)] (fun a h => tree_Create.f k (a.1) (a.2.1) (a.2.2) h)⟩,
  ⟨19, anyArgs, wr [(.int .i64), (.int .i64)] [(.int .i64)] (fun a h => corbelhand_Pick.f k (a.1) (a.2) h)⟩,
  ⟨55, anyArgs, wr [.sl, .str, (.int .i64)] [.sl, (.int .i64)] (fun a h => tree_Resize.f k (a.1) (a.2.1) (a.2.2) h)⟩]
noncomputable def corbellaw18_TreeSizes.an (k : Nat) (p : Nat) : Option Ann := cond (Nat.beq p 1018) (some (.pass [] (lrun [(1, .sl), (5, .sl), (8, .sl), (9, (.int .i64))] (some [(4, .bool)]) [] 2 (fun a h => corbellaw18_TreeSizes.l1 k k (a.1) (a.2.1) (a.2.2.1) (a.2.2.2) h))))
  (cond (Nat.beq p 2085498) (some (.pass [1, 8, 9, 11] (lrun [(1, .sl), (8, .sl), (9, (.int .i64)), (11, .sl), (130, (.int .i64)), (131, (.int .i64))] (some [(4, .bool)]) [] 4 (fun a h => corbellaw18_TreeSizes.l2 k k (a.1) (a.2.1) (a.2.2.1) (a.2.2.2.1) (a.2.2.2.2.1) (a.2.2.2.2.2) h))))
  (cond (Nat.beq p 1067775181) (some (.join [1, 8, 9, 11, 13, 130, 131] none [(14, (.int .i64))]))
  (cond (Nat.beq p 250) (some (.pass [1, 5] (lrun [(0, .sl), (1, .sl), (5, .sl), (50, (.int .i64)), (51, (.int .i64))] none [] 0 (fun a h => corbellaw18_TreeSizes.l0 k k (a.1) (a.2.1) (a.2.2.1) (a.2.2.2.1) (a.2.2.2.2) h))))
  (none))))
noncomputable def corbellaw18_TreeSizes.body : Code := (Try.f14.body).getD .skip
noncomputable def corbellaw18_TreeSizes.c250 : Code := cat corbellaw18_TreeSizes.body [1, 1, 1, 1, 0, 1, 0, 0]
noncomputable def corbellaw18_TreeSizes.c1018 : Code := cat corbellaw18_TreeSizes.body [1, 1, 1, 1, 1, 1, 0, 1, 0, 0]
noncomputable def corbellaw18_TreeSizes.c2085498 : Code := cat corbellaw18_TreeSizes.body [1, 1, 1, 1, 1, 1, 0, 1, 0, 0, 1, 0, 0, 1, 1, 1, 1, 0, 1, 0, 0]
set_option maxRecDepth 100000 in
theorem corbellaw18_TreeSizes.TS {C : FuncId → Bool} {X : CallF} (hX : XOk C X) (hK49 : KOk X 49) (hK110 : InsOk X 110) (hK114 : CmpOk X 114) (k : Nat) : TblS Try.prog C X (corbellaw18_TreeSizes.T k) := by
  refine tblOf_sound ?_
  intro e he
  rcases List.mem_cons.1 he with rfl | he
  · exact knownW_told hK49
  rcases List.mem_cons.1 he with rfl | he
  · exact wr_told (tree_Create.told hX hK110 hK114 k)
  rcases List.mem_cons.1 he with rfl | he
  · exact wr_told (corbelhand_Pick.told hX k)
  rcases List.mem_cons.1 he with rfl | he
  · exact wr_told (tree_Resize.told hX hK114 k)
  exact absurd he List.not_mem_nil
set_option maxRecDepth 100000 in
theorem corbellaw18_TreeSizes.l2_pass {C : FuncId → Bool} {X : CallF} (hX : XOk C X) (hK49 : KOk X 49) (hK110 : InsOk X 110) (hK114 : CmpOk X 114) (k n : Nat) : PassS Try.prog C X 153 (.loop corbellaw18_TreeSizes.c2085498) (lrun [(1, .sl), (8, .sl), (9, (.int .i64)), (11, .sl), (130, (.int .i64)), (131, (.int .i64))] (some [(4, .bool)]) [] 4 (fun a h => corbellaw18_TreeSizes.l2 k n (a.1) (a.2.1) (a.2.2.1) (a.2.2.2.1) (a.2.2.2.2.1) (a.2.2.2.2.2) h)) :=
  loop_pass (ins := [(1, .sl), (8, .sl), (9, (.int .i64)), (11, .sl), (130, (.int .i64)), (131, (.int .i64))]) (rets := (some [(4, .bool)])) (outs := []) (id := 4) (tbl := corbellaw18_TreeSizes.T k) (an := corbellaw18_TreeSizes.an k) (pb := 4170996) (corbellaw18_TreeSizes.TS hX hK49 hK110 hK114 k) (fun n => (fun a h => corbellaw18_TreeSizes.l2 k n (a.1) (a.2.1) (a.2.2.1) (a.2.2.2.1) (a.2.2.2.2.1) (a.2.2.2.2.2) h)) (fun a h => rfl) (fun n a h => by kernel_rfl)
    (by
      have e : need (corbellaw18_TreeSizes.an k) corbellaw18_TreeSizes.c2085498 4170996 = [] := by kernel_rfl
      rw [e]; intro q hq; cases hq) n
set_option maxRecDepth 100000 in
theorem corbellaw18_TreeSizes.l1_pass {C : FuncId → Bool} {X : CallF} (hX : XOk C X) (hK49 : KOk X 49) (hK110 : InsOk X 110) (hK114 : CmpOk X 114) (k n : Nat) : PassS Try.prog C X 153 (.loop corbellaw18_TreeSizes.c1018) (lrun [(1, .sl), (5, .sl), (8, .sl), (9, (.int .i64))] (some [(4, .bool)]) [] 2 (fun a h => corbellaw18_TreeSizes.l1 k n (a.1) (a.2.1) (a.2.2.1) (a.2.2.2) h)) :=
  loop_pass (ins := [(1, .sl), (5, .sl), (8, .sl), (9, (.int .i64))]) (rets := (some [(4, .bool)])) (outs := []) (id := 2) (tbl := corbellaw18_TreeSizes.T k) (an := corbellaw18_TreeSizes.an k) (pb := 2036) (corbellaw18_TreeSizes.TS hX hK49 hK110 hK114 k) (fun n => (fun a h => corbellaw18_TreeSizes.l1 k n (a.1) (a.2.1) (a.2.2.1) (a.2.2.2) h)) (fun a h => rfl) (fun n a h => by kernel_rfl)
    (by
      have e : need (corbellaw18_TreeSizes.an k) corbellaw18_TreeSizes.c1018 2036 = [(Code.loop corbellaw18_TreeSizes.c2085498, lrun [(1, .sl), (8, .sl), (9, (.int .i64)), (11, .sl), (130, (.int .i64)), (131, (.int .i64))] (some [(4, .bool)]) [] 4 (fun a h => corbellaw18_TreeSizes.l2 k k (a.1) (a.2.1) (a.2.2.1) (a.2.2.2.1) (a.2.2.2.2.1) (a.2.2.2.2.2) h))] := by kernel_rfl
      rw [e]; intro q hq
      rcases List.mem_cons.1 hq with rfl | hq
      · exact corbellaw18_TreeSizes.l2_pass hX hK49 hK110 hK114 k k
      cases hq) n
set_option maxRecDepth 100000 in
theorem corbellaw18_TreeSizes.l0_pass {C : FuncId → Bool} {X : CallF} (hX : XOk C X) (hK49 : KOk X 49) (hK110 : InsOk X 110) (hK114 : CmpOk X 114) (k n : Nat) : PassS Try.prog C X 153 (.loop corbellaw18_TreeSizes.c250) (lrun [(0, .sl), (1, .sl), (5, .sl), (50, (.int .i64)), (51, (.int .i64))] none [] 0 (fun a h => corbellaw18_TreeSizes.l0 k n (a.1) (a.2.1) (a.2.2.1) (a.2.2.2.1) (a.2.2.2.2) h)) :=
  loop_pass (ins := [(0, .sl), (1, .sl), (5, .sl), (50, (.int .i64)), (51, (.int .i64))]) (rets := none) (outs := []) (id := 0) (tbl := corbellaw18_TreeSizes.T k) (an := corbellaw18_TreeSizes.an k) (pb := 500) (corbellaw18_TreeSizes.TS hX hK49 hK110 hK114 k) (fun n => (fun a h => corbellaw18_TreeSizes.l0 k n (a.1) (a.2.1) (a.2.2.1) (a.2.2.2.1) (a.2.2.2.2) h)) (fun a h => rfl) (fun n a h => by kernel_rfl)
    (by
      have e : need (corbellaw18_TreeSizes.an k) corbellaw18_TreeSizes.c250 500 = [] := by kernel_rfl
      rw [e]; intro q hq; cases hq) n
set_option maxRecDepth 100000 in
theorem corbellaw18_TreeSizes.eq (k : Nat) (a : RT [.sl, .sl]) (h : H) : (fun a h => corbellaw18_TreeSizes.f k (a.1) (a.2) h) a h = kfun Try.prog (corbellaw18_TreeSizes.T k) (corbellaw18_TreeSizes.an k) (RT [.bool] × H) Try.f14 (encL [.sl, .sl] a) h (fun vs h' => (decL [.bool] vs).bind fun x => some (x, h')) := by kernel_rfl
set_option maxRecDepth 100000 in
theorem corbellaw18_TreeSizes.told {C : FuncId → Bool} {X : CallF} (hX : XOk C X) (hK49 : KOk X 49) (hK110 : InsOk X 110) (hK114 : CmpOk X 114) (k : Nat) : Den.Told Try.prog C X 14 [.sl, .sl] [.bool] (fun a h => corbellaw18_TreeSizes.f k (a.1) (a.2) h) :=
  told_of fun a h q e => fn_of (c := corbellaw18_TreeSizes.body) (corbellaw18_TreeSizes.TS hX hK49 hK110 hK114 k) Try.func14 (by kernel_rfl) (hX.no 14 _ h (by decide))
    (by
      have e : need (corbellaw18_TreeSizes.an k) corbellaw18_TreeSizes.body 1 = [(Code.loop corbellaw18_TreeSizes.c250, lrun [(0, .sl), (1, .sl), (5, .sl), (50, (.int .i64)), (51, (.int .i64))] none [] 0 (fun a h => corbellaw18_TreeSizes.l0 k k (a.1) (a.2.1) (a.2.2.1) (a.2.2.2.1) (a.2.2.2.2) h)), (Code.loop corbellaw18_TreeSizes.c1018, lrun [(1, .sl), (5, .sl), (8, .sl), (9, (.int .i64))] (some [(4, .bool)]) [] 2 (fun a h => corbellaw18_TreeSizes.l1 k k (a.1) (a.2.1) (a.2.2.1) (a.2.2.2) h))] := by kernel_rfl
      rw [e]; intro q hq
      rcases List.mem_cons.1 hq with rfl | hq
      · exact corbellaw18_TreeSizes.l0_pass hX hK49 hK110 hK114 k k
      rcases List.mem_cons.1 hq with rfl | hq
      · exact corbellaw18_TreeSizes.l1_pass hX hK49 hK110 hK114 k k
      cases hq)
    ((corbellaw18_TreeSizes.eq k a h).symm.trans e)
/-! ### slices.Equal[[]int,int] -/
/-! ### corbel/tree.Same$1 -/
/-! ### slices.EqualFunc[[]corbel/api.Volume,[]corbel/api.Volume,corbel/api.Volume,corbel/api.Volume] -/
/-! ### corbel/tree.Same -/
/-! ### corbel/corbellaw18.TreeOrders -/
/-! ### corbel/corbelref16.Delete -/
/-! ### corbel/corbelref16.Resize -/
/-! ### corbel/corbellaw18.do -/
/-! ### corbel/tree.Counts -/
/-! ### corbel/corbelref16.Counts -/
/-! ### corbel/corbellaw18.TreeActs -/
end Go.Proofs.Ytfenkpghcbohdaa.Fwd
