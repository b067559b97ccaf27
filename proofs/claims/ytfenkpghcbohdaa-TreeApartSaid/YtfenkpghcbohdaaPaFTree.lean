/- Forward runs of functions of the program, printed by a program of this session: each function on plain values and memory, and that the code comes to it. No condition. -/
import Derived.Test.YtfenkpghcbohdaaDenCmp
import Derived.KernelRfl
import Derived.Test.YtfenkpghcbohdaaPaFIns
import Derived.Test.YtfenkpghcbohdaaPaFKn38
import Derived.Test.YtfenkpghcbohdaaPaFKn49
import Derived.Test.YtfenkpghcbohdaaPaFMeta
import Derived.Test.YtfenkpghcbohdaaPaFRoot
namespace Go.Proofs.Ytfenkpghcbohdaa.Fwd
open Go Den
set_option linter.unusedVariables false
/-! ### corbel/corbelref16.Copied -/
noncomputable def corbelref16_Copied.f (k : Nat) (a0 : Sl) (h : H) : Option ((Sl) × H) :=
  (corbelref16_copied.f k a0 h).bind fun q1 =>
    some (q1.1, q1.2)
noncomputable def corbelref16_Copied.T (k : Nat) : Tbl := tblOf [⟨86, anyArgs, wr [.sl] [.sl] (fun a h => corbelref16_copied.f k a h)⟩]
noncomputable def corbelref16_Copied.an (k : Nat) (p : Nat) : Option Ann := none
noncomputable def corbelref16_Copied.body : Code := (Try.f50.body).getD .skip
set_option maxRecDepth 100000 in
theorem corbelref16_Copied.TS {C : FuncId → Bool} {X : CallF} (hX : XOk C X) (k : Nat) : TblS Try.prog C X (corbelref16_Copied.T k) := by
  refine tblOf_sound ?_
  intro e he
  rcases List.mem_cons.1 he with rfl | he
  · exact wr_told (corbelref16_copied.told hX k)
  exact absurd he List.not_mem_nil
set_option maxRecDepth 100000 in
theorem corbelref16_Copied.eq (k : Nat) (a : RT [.sl]) (h : H) : (fun a h => corbelref16_Copied.f k a h) a h = kfun Try.prog (corbelref16_Copied.T k) (corbelref16_Copied.an k) (RT [.sl] × H) Try.f50 (encL [.sl] a) h (fun vs h' => (decL [.sl] vs).bind fun x => some (x, h')) := by kernel_rfl
set_option maxRecDepth 100000 in
theorem corbelref16_Copied.told {C : FuncId → Bool} {X : CallF} (hX : XOk C X) (k : Nat) : Den.Told Try.prog C X 50 [.sl] [.sl] (fun a h => corbelref16_Copied.f k a h) :=
  told_of fun a h q e => fn_of (c := corbelref16_Copied.body) (corbelref16_Copied.TS hX k) Try.func50 (by kernel_rfl) (hX.no 50 _ h (by decide))
    (by
      have e : need (corbelref16_Copied.an k) corbelref16_Copied.body 1 = [] := by kernel_rfl
      rw [e]; intro q hq; cases hq)
    ((corbelref16_Copied.eq k a h).symm.trans e)
/-! ### corbel/corbelhand.Size -/
noncomputable def corbelhand_Size.f (k : Nat) (a0 : Int) (h : H) : Option ((Int) × H) :=
  (corbelhand_Pick.f k a0 (17 : Int) h).bind fun q1 =>
    cond (q1.1 == (16 : Int))
      (some (wrapA .i64 (a0.tdiv (17 : Int)), q1.2))
      ((corbelhand_Pick.f k a0 (5 : Int) q1.2).bind fun q2 =>
    some (wrapA .i64 ((8 : Int) * q2.1), q2.2))
noncomputable def corbelhand_Size.T (k : Nat) : Tbl := tblOf [⟨19, anyArgs, wr [(.int .i64), (.int .i64)] [(.int .i64)] (fun a h => corbelhand_Pick.f k (a.1) (a.2) h)⟩]
noncomputable def corbelhand_Size.an (k : Nat) (p : Nat) : Option Ann := none
noncomputable def corbelhand_Size.body : Code := (Try.f28.body).getD .skip
set_option maxRecDepth 100000 in
theorem corbelhand_Size.TS {C : FuncId → Bool} {X : CallF} (hX : XOk C X) (k : Nat) : TblS Try.prog C X (corbelhand_Size.T k) := by
  refine tblOf_sound ?_
  intro e he
  rcases List.mem_cons.1 he with rfl | he
  · exact wr_told (corbelhand_Pick.told hX k)
  exact absurd he List.not_mem_nil
set_option maxRecDepth 100000 in
theorem corbelhand_Size.eq (k : Nat) (a : RT [(.int .i64)]) (h : H) : (fun a h => corbelhand_Size.f k a h) a h = kfun Try.prog (corbelhand_Size.T k) (corbelhand_Size.an k) (RT [(.int .i64)] × H) Try.f28 (encL [(.int .i64)] a) h (fun vs h' => (decL [(.int .i64)] vs).bind fun x => some (x, h')) := by kernel_rfl
set_option maxRecDepth 100000 in
theorem corbelhand_Size.told {C : FuncId → Bool} {X : CallF} (hX : XOk C X) (k : Nat) : Den.Told Try.prog C X 28 [(.int .i64)] [(.int .i64)] (fun a h => corbelhand_Size.f k a h) :=
  told_of fun a h q e => fn_of (c := corbelhand_Size.body) (corbelhand_Size.TS hX k) Try.func28 (by kernel_rfl) (hX.no 28 _ h (by decide))
    (by
      have e : need (corbelhand_Size.an k) corbelhand_Size.body 1 = [] := by kernel_rfl
      rw [e]; intro q hq; cases hq)
    ((corbelhand_Size.eq k a h).symm.trans e)
/-! ### corbel/tree.Resize -/
noncomputable def tree_Resize.f (k : Nat) (a0 : Sl) (a1 : ByteArray) (a2 : Int) (h : H) : Option ((Sl × Int) × H) :=
  (tree_Right.f k a0 h).bind fun q1 =>
    cond (!q1.1)
      (some (((⟨none, 0, 0⟩ : Sl), (1 : Int)), q1.2))
      ((tree_Find.f k a0 a1 q1.2).bind fun q2 =>
    (stv 5 (newR q2.2 58 5 [(Value.string (⟨#[]⟩ : ByteArray)), (Value.string (⟨#[]⟩ : ByteArray)), (Value.bool false), (Value.int .i64 (0 : Int)), (Value.slice none 0 0)]) (some ⟨q2.2.next, 0, none⟩) [(Value.string q2.1.1.1), (Value.string q2.1.1.2.1), (Value.bool q2.1.1.2.2.1), (Value.int .i64 q2.1.1.2.2.2.1), (Value.slice q2.1.1.2.2.2.2.a q2.1.1.2.2.2.2.n q2.1.1.2.2.2.2.c)]).bind fun q3 =>
    (asS (ldc q3.2 (some ⟨q2.2.next, 4, none⟩))).bind fun s4 =>
    (extent_Sized.f k s4 a2 q3.2).bind fun q5 =>
    cond (!q2.1.2)
      (some (((⟨none, 0, 0⟩ : Sl), (7 : Int)), q5.2))
      ((asB (ldc q5.2 (some ⟨q2.2.next, 2, none⟩))).bind fun b6 =>
    cond b6
      (some (((⟨none, 0, 0⟩ : Sl), (10 : Int)), q5.2))
      ((extent_Right.f k a2 q5.1.1 q5.2).bind fun q7 =>
    cond (!q7.1)
      (some (((⟨none, 0, 0⟩ : Sl), (1 : Int)), q7.2))
      ((tree_all.f k a0 q7.2).bind fun q8 =>
    (tree_at.f k a0 a1 q8.2).bind fun q9 =>
    (asP (ixs 5 q8.1.a q8.1.n q9.1.1)).bind fun p10 =>
    (asP (fadd 3 p10)).bind fun p11 =>
    (stv 1 q9.2 p11 [(Value.int .i64 a2)]).bind fun q12 =>
    (asP (ixs 5 q8.1.a q8.1.n q9.1.1)).bind fun p13 =>
    (asP (fadd 4 p13)).bind fun p14 =>
    (stv 1 q12.2 p14 [(Value.slice q5.1.1.a q5.1.1.n q5.1.1.c)]).bind fun q15 =>
    some ((q8.1, (0 : Int)), q15.2)))))
noncomputable def tree_Resize.T (k : Nat) : Tbl := tblOf [⟨56, anyArgs, wr [.sl] [.bool] (fun a h => tree_Right.f k a h)⟩,
  ⟨64, anyArgs, wr [.sl, .str] [(.st [.str, .str, .bool, (.int .i64), .sl]), .bool] (fun a h => tree_Find.f k (a.1) (a.2) h)⟩,
  ⟨26, anyArgs, wr [.sl, (.int .i64)] [.sl, .sl] (fun a h => extent_Sized.f k (a.1) (a.2) h)⟩,
  ⟨30, anyArgs, wr [(.int .i64), .sl] [.bool] (fun a h => extent_Right.f k (a.1) (a.2) h)⟩,
  ⟨91, anyArgs, wr [.sl] [.sl] (fun a h => tree_all.f k a h)⟩,
  ⟨92, anyArgs, wr [.sl, .str] [(.int .i64), .bool] (fun a h => tree_at.f k (a.1) (a.2) h)⟩]
noncomputable def tree_Resize.an (k : Nat) (p : Nat) : Option Ann := none
noncomputable def tree_Resize.body : Code := (Try.f55.body).getD .skip
set_option maxRecDepth 100000 in
theorem tree_Resize.TS {C : FuncId → Bool} {X : CallF} (hX : XOk C X) (hK114 : CmpOk X 114) (k : Nat) : TblS Try.prog C X (tree_Resize.T k) := by
  refine tblOf_sound ?_
  intro e he
  rcases List.mem_cons.1 he with rfl | he
  · exact wr_told (tree_Right.told hX hK114 k)
  rcases List.mem_cons.1 he with rfl | he
  · exact wr_told (tree_Find.told hX k)
  rcases List.mem_cons.1 he with rfl | he
  · exact wr_told (extent_Sized.told hX k)
  rcases List.mem_cons.1 he with rfl | he
  · exact wr_told (extent_Right.told hX k)
  rcases List.mem_cons.1 he with rfl | he
  · exact wr_told (tree_all.told hX k)
  rcases List.mem_cons.1 he with rfl | he
  · exact wr_told (tree_at.told hX hK114 k)
  exact absurd he List.not_mem_nil
set_option maxRecDepth 100000 in
theorem tree_Resize.eq (k : Nat) (a : RT [.sl, .str, (.int .i64)]) (h : H) : (fun a h => tree_Resize.f k (a.1) (a.2.1) (a.2.2) h) a h = kfun Try.prog (tree_Resize.T k) (tree_Resize.an k) (RT [.sl, (.int .i64)] × H) Try.f55 (encL [.sl, .str, (.int .i64)] a) h (fun vs h' => (decL [.sl, (.int .i64)] vs).bind fun x => some (x, h')) := by kernel_rfl
set_option maxRecDepth 100000 in
theorem tree_Resize.told {C : FuncId → Bool} {X : CallF} (hX : XOk C X) (hK114 : CmpOk X 114) (k : Nat) : Den.Told Try.prog C X 55 [.sl, .str, (.int .i64)] [.sl, (.int .i64)] (fun a h => tree_Resize.f k (a.1) (a.2.1) (a.2.2) h) :=
  told_of fun a h q e => fn_of (c := tree_Resize.body) (tree_Resize.TS hX hK114 k) Try.func55 (by kernel_rfl) (hX.no 55 _ h (by decide))
    (by
      have e : need (tree_Resize.an k) tree_Resize.body 1 = [] := by kernel_rfl
      rw [e]; intro q hq; cases hq)
    ((tree_Resize.eq k a h).symm.trans e)
/-! ### corbel/corbellaw18.TreeApart -/
noncomputable def corbellaw18_TreeApart.l1 (k : Nat) (n : Nat) : Sl → Int → Sl → ByteArray → ByteArray → Sl → Int → Int → Int → H → Option (((Bool) ⊕ (Unit)) × H) :=
  Nat.rec (motive := fun _ => Sl → Int → Sl → ByteArray → ByteArray → Sl → Int → Int → Int → H → Option (((Bool) ⊕ (Unit)) × H)) (fun _ _ _ _ _ _ _ _ _ _ => none) (fun _ ih x39 x40 x41 x42 x43 x44 x45 x46 x47 h48 => cond (decide (x47 < x46))
      ((asP (ixs 5 x41.a x41.n x47)).bind fun p291 =>
    (asP (fadd 0 p291)).bind fun p292 =>
    (asT (ldc h48 p292)).bind fun s293 =>
    (corbelref16_At.f k x44 s293 h48).bind fun q294 =>
    (asP (ixs 5 x41.a x41.n x47)).bind fun p295 =>
    (asP (fadd 0 p295)).bind fun p296 =>
    (asT (ldc q294.2 p296)).bind fun s297 =>
    cond (s297.toList == x42.toList)
      ((cond (x45 == (7 : Int)) (some (decide (q294.1 ≥ (0 : Int)), q294.2))
      (some (false, q294.2))).bind fun g298 =>
    (cond g298.1 (some (true, g298.2))
      (some (decide (x45 < (7 : Int)), g298.2))).bind fun g299 =>
    cond g299.1
      (some (Sum.inl false, g299.2))
      (ih x39 x40 x41 x42 x43 x44 x45 x46 (wrapA .i64 (x47 + (1 : Int))) g299.2))
      (cond (decide (q294.1 < (0 : Int)))
      (some (Sum.inl false, q294.2))
      ((asP (ixs 5 x44.a x44.n q294.1)).bind fun p300 =>
    (asSt [.str, .str, .bool, (.int .i64), .sl] (lda 5 q294.2 p300)).bind fun s301 =>
    (stv 5 (newR q294.2 58 5 [(Value.string (⟨#[]⟩ : ByteArray)), (Value.string (⟨#[]⟩ : ByteArray)), (Value.bool false), (Value.int .i64 (0 : Int)), (Value.slice none 0 0)]) (some ⟨q294.2.next, 0, none⟩) [(Value.string s301.1), (Value.string s301.2.1), (Value.bool s301.2.2.1), (Value.int .i64 s301.2.2.2.1), (Value.slice s301.2.2.2.2.a s301.2.2.2.2.n s301.2.2.2.2.c)]).bind fun q302 =>
    (cond (x45 == (7 : Int)) ((asP (ixs 5 x41.a x41.n x47)).bind fun p303 =>
    (asP (fadd 1 p303)).bind fun p304 =>
    (asT (ldc q302.2 p304)).bind fun s305 =>
    some (s305.toList == x42.toList, q302.2))
      (some (false, q302.2))).bind fun g306 =>
    (cond g306.1
      ((stv 1 g306.2 (some ⟨q294.2.next, 1, none⟩) [(Value.string x42)]).bind fun q307 =>
    some ((), q307.2))
      (some ((), g306.2)) : Option ((Unit) × H)).bind fun j308 =>
    (asSt [.str, .str, .bool, (.int .i64), .sl] (lda 5 j308.2 (some ⟨q294.2.next, 0, none⟩))).bind fun s309 =>
    (asP (ixs 5 x41.a x41.n x47)).bind fun p310 =>
    (asSt [.str, .str, .bool, (.int .i64), .sl] (lda 5 j308.2 p310)).bind fun s311 =>
    (corbelref16_SameVolume.f k (s309.1, s309.2.1, s309.2.2.1, s309.2.2.2.1, s309.2.2.2.2) (s311.1, s311.2.1, s311.2.2.1, s311.2.2.2.1, s311.2.2.2.2) j308.2).bind fun q312 =>
    cond (!q312.1)
      (some (Sum.inl false, q312.2))
      (ih x39 x40 x41 x42 x43 x44 x45 x46 (wrapA .i64 (x47 + (1 : Int))) q312.2))))
      (some (Sum.inr (), h48))) n
theorem corbellaw18_TreeApart.l1_zero (k : Nat) (x39 : Sl) (x40 : Int) (x41 : Sl) (x42 : ByteArray) (x43 : ByteArray) (x44 : Sl) (x45 : Int) (x46 : Int) (x47 : Int) (h48 : H) : corbellaw18_TreeApart.l1 k 0 x39 x40 x41 x42 x43 x44 x45 x46 x47 h48 = none := rfl
theorem corbellaw18_TreeApart.l1_succ (k n : Nat) (x39 : Sl) (x40 : Int) (x41 : Sl) (x42 : ByteArray) (x43 : ByteArray) (x44 : Sl) (x45 : Int) (x46 : Int) (x47 : Int) (h48 : H) : corbellaw18_TreeApart.l1 k (n + 1) x39 x40 x41 x42 x43 x44 x45 x46 x47 h48 = (cond (decide (x47 < x46))
      ((asP (ixs 5 x41.a x41.n x47)).bind fun p291 =>
    (asP (fadd 0 p291)).bind fun p292 =>
    (asT (ldc h48 p292)).bind fun s293 =>
    (corbelref16_At.f k x44 s293 h48).bind fun q294 =>
    (asP (ixs 5 x41.a x41.n x47)).bind fun p295 =>
    (asP (fadd 0 p295)).bind fun p296 =>
    (asT (ldc q294.2 p296)).bind fun s297 =>
    cond (s297.toList == x42.toList)
      ((cond (x45 == (7 : Int)) (some (decide (q294.1 ≥ (0 : Int)), q294.2))
      (some (false, q294.2))).bind fun g298 =>
    (cond g298.1 (some (true, g298.2))
      (some (decide (x45 < (7 : Int)), g298.2))).bind fun g299 =>
    cond g299.1
      (some (Sum.inl false, g299.2))
      (corbellaw18_TreeApart.l1 k n x39 x40 x41 x42 x43 x44 x45 x46 (wrapA .i64 (x47 + (1 : Int))) g299.2))
      (cond (decide (q294.1 < (0 : Int)))
      (some (Sum.inl false, q294.2))
      ((asP (ixs 5 x44.a x44.n q294.1)).bind fun p300 =>
    (asSt [.str, .str, .bool, (.int .i64), .sl] (lda 5 q294.2 p300)).bind fun s301 =>
    (stv 5 (newR q294.2 58 5 [(Value.string (⟨#[]⟩ : ByteArray)), (Value.string (⟨#[]⟩ : ByteArray)), (Value.bool false), (Value.int .i64 (0 : Int)), (Value.slice none 0 0)]) (some ⟨q294.2.next, 0, none⟩) [(Value.string s301.1), (Value.string s301.2.1), (Value.bool s301.2.2.1), (Value.int .i64 s301.2.2.2.1), (Value.slice s301.2.2.2.2.a s301.2.2.2.2.n s301.2.2.2.2.c)]).bind fun q302 =>
    (cond (x45 == (7 : Int)) ((asP (ixs 5 x41.a x41.n x47)).bind fun p303 =>
    (asP (fadd 1 p303)).bind fun p304 =>
    (asT (ldc q302.2 p304)).bind fun s305 =>
    some (s305.toList == x42.toList, q302.2))
      (some (false, q302.2))).bind fun g306 =>
    (cond g306.1
      ((stv 1 g306.2 (some ⟨q294.2.next, 1, none⟩) [(Value.string x42)]).bind fun q307 =>
    some ((), q307.2))
      (some ((), g306.2)) : Option ((Unit) × H)).bind fun j308 =>
    (asSt [.str, .str, .bool, (.int .i64), .sl] (lda 5 j308.2 (some ⟨q294.2.next, 0, none⟩))).bind fun s309 =>
    (asP (ixs 5 x41.a x41.n x47)).bind fun p310 =>
    (asSt [.str, .str, .bool, (.int .i64), .sl] (lda 5 j308.2 p310)).bind fun s311 =>
    (corbelref16_SameVolume.f k (s309.1, s309.2.1, s309.2.2.1, s309.2.2.2.1, s309.2.2.2.2) (s311.1, s311.2.1, s311.2.2.1, s311.2.2.2.1, s311.2.2.2.2) j308.2).bind fun q312 =>
    cond (!q312.1)
      (some (Sum.inl false, q312.2))
      (corbellaw18_TreeApart.l1 k n x39 x40 x41 x42 x43 x44 x45 x46 (wrapA .i64 (x47 + (1 : Int))) q312.2))))
      (some (Sum.inr (), h48))) := rfl
noncomputable def corbellaw18_TreeApart.l0 (k : Nat) (n : Nat) : Sl → Sl → Int → H → Option (((Bool) ⊕ (Unit)) × H) :=
  Nat.rec (motive := fun _ => Sl → Sl → Int → H → Option (((Bool) ⊕ (Unit)) × H)) (fun _ _ _ _ => none) (fun _ ih x1 x2 x3 h4 => (cond (decide (x3 < (Int.ofNat x1.n))) (some (decide (x3 < (40 : Int)), h4))
      (some (false, h4))).bind fun g5 =>
    cond g5.1
      ((corbelref16_Copied.f k x2 g5.2).bind fun q6 =>
    (asP (ixs 6 x1.a x1.n x3)).bind fun p7 =>
    (asSt [(.int .i64), (.int .i64), (.int .i64), (.int .i64), (.int .i64), .str] (lda 6 q6.2 p7)).bind fun s8 =>
    (stv 6 (newR q6.2 79 6 [(Value.int .i64 (0 : Int)), (Value.int .i64 (0 : Int)), (Value.int .i64 (0 : Int)), (Value.int .i64 (0 : Int)), (Value.int .i64 (0 : Int)), (Value.string (⟨#[]⟩ : ByteArray))]) (some ⟨q6.2.next, 0, none⟩) [(Value.int .i64 s8.1), (Value.int .i64 s8.2.1), (Value.int .i64 s8.2.2.1), (Value.int .i64 s8.2.2.2.1), (Value.int .i64 s8.2.2.2.2.1), (Value.string s8.2.2.2.2.2)]).bind fun q9 =>
    (asI .i64 (ldc q9.2 (some ⟨q6.2.next, 2, none⟩))).bind fun n10 =>
    (asT (ldc q9.2 (some ⟨q6.2.next, 5, none⟩))).bind fun s11 =>
    (corbelhand_Odd.f k n10 s11 q9.2).bind fun q12 =>
    (asI .i64 (ldc q12.2 (some ⟨q6.2.next, 1, none⟩))).bind fun n13 =>
    (asT (ldc q12.2 (some ⟨q6.2.next, 5, none⟩))).bind fun s14 =>
    (corbelhand_Odd.f k n13 s14 q12.2).bind fun q15 =>
    (asI .i64 (ldc q15.2 (some ⟨q6.2.next, 0, none⟩))).bind fun n16 =>
    (corbelhand_Pick.f k n16 (10 : Int) q15.2).bind fun q17 =>
    (cond (q17.1 == (0 : Int))
      (some (q17.1 == (0 : Int), q17.2))
      ((cond (q17.1 == (1 : Int))
      (some (q17.1 == (1 : Int), q17.2))
      (some (q17.1 == (2 : Int), q17.2)) : Option ((Bool) × H)).bind fun j18 =>
    some (j18.1, j18.2)) : Option ((Bool) × H)).bind fun j19 =>
    (cond j19.1
      ((asI .i64 (ldc j19.2 (some ⟨q6.2.next, 3, none⟩))).bind fun n20 =>
    (corbelhand_Size.f k n20 j19.2).bind fun q21 =>
    (tree_Create.f k x2 q12.1 q21.1 q21.2).bind fun q22 =>
    some ((q22.1.1, q22.1.2), q22.2))
      ((cond (q17.1 == (3 : Int))
      (some (q17.1 == (3 : Int), j19.2))
      (some (q17.1 == (4 : Int), j19.2)) : Option ((Bool) × H)).bind fun j23 =>
    (cond j23.1
      ((tree_Snapshot.f k x2 q15.1 q12.1 j23.2).bind fun q24 =>
    some ((q24.1.1, q24.1.2), q24.2))
      ((cond (q17.1 == (5 : Int))
      (some (q17.1 == (5 : Int), j23.2))
      (some (q17.1 == (6 : Int), j23.2)) : Option ((Bool) × H)).bind fun j25 =>
    (cond j25.1
      ((tree_Clone.f k x2 q15.1 q12.1 j25.2).bind fun q26 =>
    some ((q26.1.1, q26.1.2), q26.2))
      ((cond (q17.1 == (7 : Int))
      ((tree_Delete.f k x2 q12.1 j25.2).bind fun q27 =>
    some ((q27.1.1, q27.1.2), q27.2))
      ((asI .i64 (ldc j25.2 (some ⟨q6.2.next, 3, none⟩))).bind fun n28 =>
    (corbelhand_Size.f k n28 j25.2).bind fun q29 =>
    (tree_Resize.f k x2 q12.1 q29.1 q29.2).bind fun q30 =>
    some ((q30.1.1, q30.1.2), q30.2)) : Option ((Sl × Int) × H)).bind fun j31 =>
    some ((j31.1.1, j31.1.2), j31.2)) : Option ((Sl × Int) × H)).bind fun j32 =>
    some ((j32.1.1, j32.1.2), j32.2)) : Option ((Sl × Int) × H)).bind fun j33 =>
    some ((j33.1.1, j33.1.2), j33.2)) : Option ((Sl × Int) × H)).bind fun j34 =>
    (corbelref16_SameTree.f k x2 q6.1 j34.2).bind fun q35 =>
    (cond (!q35.1) (some (true, q35.2))
      ((cond (j34.1.2 != (0 : Int)) (some (decide ((Int.ofNat j34.1.1.n) > (0 : Int)), q35.2))
      (some (false, q35.2))).bind fun g36 =>
    some (g36.1, g36.2))).bind fun g37 =>
    cond g37.1
      (some (Sum.inl false, g37.2))
      (cond (j34.1.2 != (0 : Int))
      (ih x1 x2 (wrapA .i64 (x3 + (1 : Int))) g37.2)
      ((tree_Right.f k j34.1.1 g37.2).bind fun q38 =>
    cond (!q38.1)
      (some (Sum.inl false, q38.2))
      ((corbellaw18_TreeApart.l1 k k x1 x3 q6.1 q12.1 q15.1 j34.1.1 q17.1 (Int.ofNat q6.1.n) (0 : Int) q38.2).bind fun w313 =>
    match w313.1 with
    | .inl r314 => some (Sum.inl r314, w313.2)
    | .inr o315 => (corbelref16_At.f k j34.1.1 q12.1 w313.2).bind fun q316 =>
    (cond (decide (q17.1 > (2 : Int))) (some (decide (q17.1 < (7 : Int)), q316.2))
      (some (false, q316.2))).bind fun g317 =>
    (cond g317.1
      ((corbelref16_At.f k q6.1 q15.1 g317.2).bind fun q342 =>
    (cond (decide (q316.1 < (0 : Int))) (some (true, q342.2))
      (some (decide (q342.1 < (0 : Int)), q342.2))).bind fun g343 =>
    cond g343.1
      (some (Sum.inl false, g343.2))
      ((asP (ixs 5 q6.1.a q6.1.n q342.1)).bind fun p344 =>
    (asSt [.str, .str, .bool, (.int .i64), .sl] (lda 5 g343.2 p344)).bind fun s345 =>
    (stv 5 (newR g343.2 58 5 [(Value.string (⟨#[]⟩ : ByteArray)), (Value.string (⟨#[]⟩ : ByteArray)), (Value.bool false), (Value.int .i64 (0 : Int)), (Value.slice none 0 0)]) (some ⟨g343.2.next, 0, none⟩) [(Value.string s345.1), (Value.string s345.2.1), (Value.bool s345.2.2.1), (Value.int .i64 s345.2.2.2.1), (Value.slice s345.2.2.2.2.a s345.2.2.2.2.n s345.2.2.2.2.c)]).bind fun q346 =>
    (stv 1 q346.2 (some ⟨g343.2.next, 0, none⟩) [(Value.string q12.1)]).bind fun q347 =>
    (stv 1 q347.2 (some ⟨g343.2.next, 1, none⟩) [(Value.string q15.1)]).bind fun q348 =>
    (stv 1 q348.2 (some ⟨g343.2.next, 2, none⟩) [(Value.bool (decide (q17.1 < (5 : Int))))]).bind fun q349 =>
    (asP (ixs 5 j34.1.1.a j34.1.1.n q316.1)).bind fun p350 =>
    (asSt [.str, .str, .bool, (.int .i64), .sl] (lda 5 q349.2 p350)).bind fun s351 =>
    (asSt [.str, .str, .bool, (.int .i64), .sl] (lda 5 q349.2 (some ⟨g343.2.next, 0, none⟩))).bind fun s352 =>
    (corbelref16_SameVolume.f k (s351.1, s351.2.1, s351.2.2.1, s351.2.2.2.1, s351.2.2.2.2) (s352.1, s352.2.1, s352.2.2.1, s352.2.2.2.1, s352.2.2.2.2) q349.2).bind fun q353 =>
    cond (!q353.1)
      (some (Sum.inl false, q353.2))
      (some (Sum.inr (), q353.2))))
      (some (Sum.inr (), g317.2)) : Option (((Bool) ⊕ (Unit)) × H)).bind fun j354 =>
    match j354.1 with
    | .inl r355 => some (Sum.inl r355, j354.2)
    | .inr o356 => ih x1 j34.1.1 (wrapA .i64 (x3 + (1 : Int))) j354.2))))
      (some (Sum.inr (), g5.2))) n
theorem corbellaw18_TreeApart.l0_zero (k : Nat) (x1 : Sl) (x2 : Sl) (x3 : Int) (h4 : H) : corbellaw18_TreeApart.l0 k 0 x1 x2 x3 h4 = none := rfl
theorem corbellaw18_TreeApart.l0_succ (k n : Nat) (x1 : Sl) (x2 : Sl) (x3 : Int) (h4 : H) : corbellaw18_TreeApart.l0 k (n + 1) x1 x2 x3 h4 = ((cond (decide (x3 < (Int.ofNat x1.n))) (some (decide (x3 < (40 : Int)), h4))
      (some (false, h4))).bind fun g5 =>
    cond g5.1
      ((corbelref16_Copied.f k x2 g5.2).bind fun q6 =>
    (asP (ixs 6 x1.a x1.n x3)).bind fun p7 =>
    (asSt [(.int .i64), (.int .i64), (.int .i64), (.int .i64), (.int .i64), .str] (lda 6 q6.2 p7)).bind fun s8 =>
    (stv 6 (newR q6.2 79 6 [(Value.int .i64 (0 : Int)), (Value.int .i64 (0 : Int)), (Value.int .i64 (0 : Int)), (Value.int .i64 (0 : Int)), (Value.int .i64 (0 : Int)), (Value.string (⟨#[]⟩ : ByteArray))]) (some ⟨q6.2.next, 0, none⟩) [(Value.int .i64 s8.1), (Value.int .i64 s8.2.1), (Value.int .i64 s8.2.2.1), (Value.int .i64 s8.2.2.2.1), (Value.int .i64 s8.2.2.2.2.1), (Value.string s8.2.2.2.2.2)]).bind fun q9 =>
    (asI .i64 (ldc q9.2 (some ⟨q6.2.next, 2, none⟩))).bind fun n10 =>
    (asT (ldc q9.2 (some ⟨q6.2.next, 5, none⟩))).bind fun s11 =>
    (corbelhand_Odd.f k n10 s11 q9.2).bind fun q12 =>
    (asI .i64 (ldc q12.2 (some ⟨q6.2.next, 1, none⟩))).bind fun n13 =>
    (asT (ldc q12.2 (some ⟨q6.2.next, 5, none⟩))).bind fun s14 =>
    (corbelhand_Odd.f k n13 s14 q12.2).bind fun q15 =>
    (asI .i64 (ldc q15.2 (some ⟨q6.2.next, 0, none⟩))).bind fun n16 =>
    (corbelhand_Pick.f k n16 (10 : Int) q15.2).bind fun q17 =>
    (cond (q17.1 == (0 : Int))
      (some (q17.1 == (0 : Int), q17.2))
      ((cond (q17.1 == (1 : Int))
      (some (q17.1 == (1 : Int), q17.2))
      (some (q17.1 == (2 : Int), q17.2)) : Option ((Bool) × H)).bind fun j18 =>
    some (j18.1, j18.2)) : Option ((Bool) × H)).bind fun j19 =>
    (cond j19.1
      ((asI .i64 (ldc j19.2 (some ⟨q6.2.next, 3, none⟩))).bind fun n20 =>
    (corbelhand_Size.f k n20 j19.2).bind fun q21 =>
    (tree_Create.f k x2 q12.1 q21.1 q21.2).bind fun q22 =>
    some ((q22.1.1, q22.1.2), q22.2))
      ((cond (q17.1 == (3 : Int))
      (some (q17.1 == (3 : Int), j19.2))
      (some (q17.1 == (4 : Int), j19.2)) : Option ((Bool) × H)).bind fun j23 =>
    (cond j23.1
      ((tree_Snapshot.f k x2 q15.1 q12.1 j23.2).bind fun q24 =>
    some ((q24.1.1, q24.1.2), q24.2))
      ((cond (q17.1 == (5 : Int))
      (some (q17.1 == (5 : Int), j23.2))
      (some (q17.1 == (6 : Int), j23.2)) : Option ((Bool) × H)).bind fun j25 =>
    (cond j25.1
      ((tree_Clone.f k x2 q15.1 q12.1 j25.2).bind fun q26 =>
    some ((q26.1.1, q26.1.2), q26.2))
      ((cond (q17.1 == (7 : Int))
      ((tree_Delete.f k x2 q12.1 j25.2).bind fun q27 =>
    some ((q27.1.1, q27.1.2), q27.2))
      ((asI .i64 (ldc j25.2 (some ⟨q6.2.next, 3, none⟩))).bind fun n28 =>
    (corbelhand_Size.f k n28 j25.2).bind fun q29 =>
    (tree_Resize.f k x2 q12.1 q29.1 q29.2).bind fun q30 =>
    some ((q30.1.1, q30.1.2), q30.2)) : Option ((Sl × Int) × H)).bind fun j31 =>
    some ((j31.1.1, j31.1.2), j31.2)) : Option ((Sl × Int) × H)).bind fun j32 =>
    some ((j32.1.1, j32.1.2), j32.2)) : Option ((Sl × Int) × H)).bind fun j33 =>
    some ((j33.1.1, j33.1.2), j33.2)) : Option ((Sl × Int) × H)).bind fun j34 =>
    (corbelref16_SameTree.f k x2 q6.1 j34.2).bind fun q35 =>
    (cond (!q35.1) (some (true, q35.2))
      ((cond (j34.1.2 != (0 : Int)) (some (decide ((Int.ofNat j34.1.1.n) > (0 : Int)), q35.2))
      (some (false, q35.2))).bind fun g36 =>
    some (g36.1, g36.2))).bind fun g37 =>
    cond g37.1
      (some (Sum.inl false, g37.2))
      (cond (j34.1.2 != (0 : Int))
      (corbellaw18_TreeApart.l0 k n x1 x2 (wrapA .i64 (x3 + (1 : Int))) g37.2)
      ((tree_Right.f k j34.1.1 g37.2).bind fun q38 =>
    cond (!q38.1)
      (some (Sum.inl false, q38.2))
      ((corbellaw18_TreeApart.l1 k k x1 x3 q6.1 q12.1 q15.1 j34.1.1 q17.1 (Int.ofNat q6.1.n) (0 : Int) q38.2).bind fun w313 =>
    match w313.1 with
    | .inl r314 => some (Sum.inl r314, w313.2)
    | .inr o315 => (corbelref16_At.f k j34.1.1 q12.1 w313.2).bind fun q316 =>
    (cond (decide (q17.1 > (2 : Int))) (some (decide (q17.1 < (7 : Int)), q316.2))
      (some (false, q316.2))).bind fun g317 =>
    (cond g317.1
      ((corbelref16_At.f k q6.1 q15.1 g317.2).bind fun q342 =>
    (cond (decide (q316.1 < (0 : Int))) (some (true, q342.2))
      (some (decide (q342.1 < (0 : Int)), q342.2))).bind fun g343 =>
    cond g343.1
      (some (Sum.inl false, g343.2))
      ((asP (ixs 5 q6.1.a q6.1.n q342.1)).bind fun p344 =>
    (asSt [.str, .str, .bool, (.int .i64), .sl] (lda 5 g343.2 p344)).bind fun s345 =>
    (stv 5 (newR g343.2 58 5 [(Value.string (⟨#[]⟩ : ByteArray)), (Value.string (⟨#[]⟩ : ByteArray)), (Value.bool false), (Value.int .i64 (0 : Int)), (Value.slice none 0 0)]) (some ⟨g343.2.next, 0, none⟩) [(Value.string s345.1), (Value.string s345.2.1), (Value.bool s345.2.2.1), (Value.int .i64 s345.2.2.2.1), (Value.slice s345.2.2.2.2.a s345.2.2.2.2.n s345.2.2.2.2.c)]).bind fun q346 =>
    (stv 1 q346.2 (some ⟨g343.2.next, 0, none⟩) [(Value.string q12.1)]).bind fun q347 =>
    (stv 1 q347.2 (some ⟨g343.2.next, 1, none⟩) [(Value.string q15.1)]).bind fun q348 =>
    (stv 1 q348.2 (some ⟨g343.2.next, 2, none⟩) [(Value.bool (decide (q17.1 < (5 : Int))))]).bind fun q349 =>
    (asP (ixs 5 j34.1.1.a j34.1.1.n q316.1)).bind fun p350 =>
    (asSt [.str, .str, .bool, (.int .i64), .sl] (lda 5 q349.2 p350)).bind fun s351 =>
    (asSt [.str, .str, .bool, (.int .i64), .sl] (lda 5 q349.2 (some ⟨g343.2.next, 0, none⟩))).bind fun s352 =>
    (corbelref16_SameVolume.f k (s351.1, s351.2.1, s351.2.2.1, s351.2.2.2.1, s351.2.2.2.2) (s352.1, s352.2.1, s352.2.2.1, s352.2.2.2.1, s352.2.2.2.2) q349.2).bind fun q353 =>
    cond (!q353.1)
      (some (Sum.inl false, q353.2))
      (some (Sum.inr (), q353.2))))
      (some (Sum.inr (), g317.2)) : Option (((Bool) ⊕ (Unit)) × H)).bind fun j354 =>
    match j354.1 with
    | .inl r355 => some (Sum.inl r355, j354.2)
    | .inr o356 => corbellaw18_TreeApart.l0 k n x1 j34.1.1 (wrapA .i64 (x3 + (1 : Int))) j354.2))))
      (some (Sum.inr (), g5.2))) := rfl
noncomputable def corbellaw18_TreeApart.f (k : Nat) (a0 : Sl) (h : H) : Option ((Bool) × H) :=
  cond (!true)
      (some (false, h))
      ((corbellaw18_TreeApart.l0 k k a0 (⟨none, 0, 0⟩ : Sl) (0 : Int) h).bind fun w357 =>
    match w357.1 with
    | .inl r358 => some (r358, w357.2)
    | .inr o359 => some (true, w357.2))
noncomputable def corbellaw18_TreeApart.T (k : Nat) : Tbl := tblOf [⟨49, anyArgs, knownW⟩,
  ⟨50, anyArgs, wr [.sl] [.sl] (fun a h => corbelref16_Copied.f k a h)⟩,
  ⟨44, anyArgs, wr [(.int .i64), .str] [.str] (fun a h => corbelhand_Odd.f k (a.1) (a.2) h)⟩,
  ⟨19, anyArgs, wr [(.int .i64), (.int .i64)] [(.int .i64)] (fun a h => corbelhand_Pick.f k (a.1) (a.2) h)⟩,
  ⟨28, anyArgs, wr [(.int .i64)] [(.int .i64)] (fun a h => corbelhand_Size.f k a h)⟩,
  ⟨51, anyArgs, wr [.sl, .str, (.int .i64)] [.sl, (.int .i64)] (fun a h => tree_Create.f k (a.1) (a.2.1) (a.2.2) h)⟩,
  ⟨52, anyArgs, wr [.sl, .str, .str] [.sl, (.int .i64)] (fun a h => tree_Snapshot.f k (a.1) (a.2.1) (a.2.2) h)⟩,
  ⟨53, anyArgs, wr [.sl, .str, .str] [.sl, (.int .i64)] (fun a h => tree_Clone.f k (a.1) (a.2.1) (a.2.2) h)⟩,
  ⟨54, anyArgs, wr [.sl, .str] [.sl, (.int .i64)] (fun a h => tree_Delete.f k (a.1) (a.2) h)⟩,
  ⟨55, anyArgs, wr [.sl, .str, (.int .i64)] [.sl, (.int .i64)] (fun a h => tree_Resize.f k (a.1) (a.2.1) (a.2.2) h)⟩,
  ⟨42, anyArgs, wr [.sl, .sl] [.bool] (fun a h => corbelref16_SameTree.f k (a.1) (a.2) h)⟩,
  ⟨56, anyArgs, wr [.sl] [.bool] (fun a h => tree_Right.f k a h)⟩,
  ⟨57, anyArgs, wr [.sl, .str] [(.int .i64)] (fun a h => corbelref16_At.f k (a.1) (a.2) h)⟩,
  ⟨58, anyArgs, wr [(.st [.str, .str, .bool, (.int .i64), .sl]), (.st [.str, .str, .bool, (.int .i64), .sl])] [.bool] (fun a h => corbelref16_SameVolume.f k (a.1) (a.2) h)⟩]
noncomputable def corbellaw18_TreeApart.an (k : Nat) (p : Nat) : Option Ann := cond (Nat.beq p 122) (some (.pass [] (lrun [(0, .sl), (3, .sl), (4, (.int .i64))] (some [(2, .bool)]) [] 0 (fun a h => corbellaw18_TreeApart.l0 k k (a.1) (a.2.1) (a.2.2) h))))
  (cond (Nat.beq p 64126971) (some (.join [0, 4, 9] (some [(2, .bool)]) []))
  (cond (Nat.beq p 32063482) (some (.pass [0, 4, 5, 7, 8, 9, 11] (lrun [(0, .sl), (4, (.int .i64)), (5, .sl), (7, .str), (8, .str), (9, .sl), (11, (.int .i64)), (119, (.int .i64)), (120, (.int .i64))] (some [(2, .bool)]) [] 3 (fun a h => corbellaw18_TreeApart.l1 k k (a.1) (a.2.1) (a.2.2.1) (a.2.2.2.1) (a.2.2.2.2.1) (a.2.2.2.2.2.1) (a.2.2.2.2.2.2.1) (a.2.2.2.2.2.2.2.1) (a.2.2.2.2.2.2.2.2) h))))
  (cond (Nat.beq p 131332023933) (some (.join [0, 4, 5, 7, 8, 9, 11, 12, 14, 119, 120] none []))
  (cond (Nat.beq p 4007925) (some (.join [0, 3, 4, 5, 7, 8, 11] none [(9, .sl), (10, (.int .i64))]))
  (cond (Nat.beq p 16031703) (some (.join [0, 3, 4, 5, 7, 8, 11] none [(9, .sl), (10, (.int .i64))]))
  (cond (Nat.beq p 64126815) (some (.join [0, 3, 4, 5, 7, 8, 11] none [(9, .sl), (10, (.int .i64))]))
  (cond (Nat.beq p 256507263) (some (.join [0, 3, 4, 5, 7, 8, 11] none [(9, .sl), (10, (.int .i64))]))
  (cond (Nat.beq p 128253629) (some (.join [0, 3, 4, 5, 6, 7, 8, 11, 49] none [(82, .bool)]))
  (cond (Nat.beq p 32063405) (some (.join [0, 3, 4, 5, 6, 7, 8, 11, 49] none [(72, .bool)]))
  (cond (Nat.beq p 8015849) (some (.join [0, 3, 4, 5, 6, 7, 8, 11, 49] none [(59, .bool)]))
  (cond (Nat.beq p 32063399) (some (.join [0, 3, 4, 5, 6, 7, 8, 11, 49] none [(59, .bool)]))
  (none))))))))))))
noncomputable def corbellaw18_TreeApart.body : Code := (Try.f13.body).getD .skip
noncomputable def corbellaw18_TreeApart.c122 : Code := cat corbellaw18_TreeApart.body [1, 1, 1, 0, 1, 0, 0]
noncomputable def corbellaw18_TreeApart.c32063482 : Code := cat corbellaw18_TreeApart.body [1, 1, 1, 0, 1, 0, 0, 1, 0, 0, 1, 1, 1, 1, 1, 1, 1, 1, 1, 1, 1, 0, 1, 0, 0]
set_option maxRecDepth 100000 in
theorem corbellaw18_TreeApart.TS {C : FuncId → Bool} {X : CallF} (hX : XOk C X) (hK49 : KOk X 49) (hK110 : InsOk X 110) (hK114 : CmpOk X 114) (k : Nat) : TblS Try.prog C X (corbellaw18_TreeApart.T k) := by
  refine tblOf_sound ?_
  intro e he
  rcases List.mem_cons.1 he with rfl | he
  · exact knownW_told hK49
  rcases List.mem_cons.1 he with rfl | he
  · exact wr_told (corbelref16_Copied.told hX k)
  rcases List.mem_cons.1 he with rfl | he
  · exact wr_told (corbelhand_Odd.told hX k)
  rcases List.mem_cons.1 he with rfl | he
  · exact wr_told (corbelhand_Pick.told hX k)
  rcases List.mem_cons.1 he with rfl | he
  · exact wr_told (corbelhand_Size.told hX k)
  rcases List.mem_cons.1 he with rfl | he
  · exact wr_told (tree_Create.told hX hK110 hK114 k)
  rcases List.mem_cons.1 he with rfl | he
  · exact wr_told (tree_Snapshot.told hX hK110 hK114 k)
  rcases List.mem_cons.1 he with rfl | he
  · exact wr_told (tree_Clone.told hX hK110 hK114 k)
  rcases List.mem_cons.1 he with rfl | he
  · exact wr_told (tree_Delete.told hX hK114 k)
  rcases List.mem_cons.1 he with rfl | he
  · exact wr_told (tree_Resize.told hX hK114 k)
  rcases List.mem_cons.1 he with rfl | he
  · exact wr_told (corbelref16_SameTree.told hX k)
  rcases List.mem_cons.1 he with rfl | he
  · exact wr_told (tree_Right.told hX hK114 k)
  rcases List.mem_cons.1 he with rfl | he
  · exact wr_told (corbelref16_At.told hX k)
  rcases List.mem_cons.1 he with rfl | he
  · exact wr_told (corbelref16_SameVolume.told hX k)
  exact absurd he List.not_mem_nil
set_option maxRecDepth 100000 in
theorem corbellaw18_TreeApart.l1_pass {C : FuncId → Bool} {X : CallF} (hX : XOk C X) (hK49 : KOk X 49) (hK110 : InsOk X 110) (hK114 : CmpOk X 114) (k n : Nat) : PassS Try.prog C X 211 (.loop corbellaw18_TreeApart.c32063482) (lrun [(0, .sl), (4, (.int .i64)), (5, .sl), (7, .str), (8, .str), (9, .sl), (11, (.int .i64)), (119, (.int .i64)), (120, (.int .i64))] (some [(2, .bool)]) [] 3 (fun a h => corbellaw18_TreeApart.l1 k n (a.1) (a.2.1) (a.2.2.1) (a.2.2.2.1) (a.2.2.2.2.1) (a.2.2.2.2.2.1) (a.2.2.2.2.2.2.1) (a.2.2.2.2.2.2.2.1) (a.2.2.2.2.2.2.2.2) h)) :=
  loop_pass (ins := [(0, .sl), (4, (.int .i64)), (5, .sl), (7, .str), (8, .str), (9, .sl), (11, (.int .i64)), (119, (.int .i64)), (120, (.int .i64))]) (rets := (some [(2, .bool)])) (outs := []) (id := 3) (tbl := corbellaw18_TreeApart.T k) (an := corbellaw18_TreeApart.an k) (pb := 64126964) (corbellaw18_TreeApart.TS hX hK49 hK110 hK114 k) (fun n => (fun a h => corbellaw18_TreeApart.l1 k n (a.1) (a.2.1) (a.2.2.1) (a.2.2.2.1) (a.2.2.2.2.1) (a.2.2.2.2.2.1) (a.2.2.2.2.2.2.1) (a.2.2.2.2.2.2.2.1) (a.2.2.2.2.2.2.2.2) h)) (fun a h => rfl) (fun n a h => by kernel_rfl)
    (by
      have e : need (corbellaw18_TreeApart.an k) corbellaw18_TreeApart.c32063482 64126964 = [] := by kernel_rfl
      rw [e]; intro q hq; cases hq) n
set_option maxRecDepth 100000 in
theorem corbellaw18_TreeApart.l0_pass {C : FuncId → Bool} {X : CallF} (hX : XOk C X) (hK49 : KOk X 49) (hK110 : InsOk X 110) (hK114 : CmpOk X 114) (k n : Nat) : PassS Try.prog C X 211 (.loop corbellaw18_TreeApart.c122) (lrun [(0, .sl), (3, .sl), (4, (.int .i64))] (some [(2, .bool)]) [] 0 (fun a h => corbellaw18_TreeApart.l0 k n (a.1) (a.2.1) (a.2.2) h)) :=
  loop_pass (ins := [(0, .sl), (3, .sl), (4, (.int .i64))]) (rets := (some [(2, .bool)])) (outs := []) (id := 0) (tbl := corbellaw18_TreeApart.T k) (an := corbellaw18_TreeApart.an k) (pb := 244) (corbellaw18_TreeApart.TS hX hK49 hK110 hK114 k) (fun n => (fun a h => corbellaw18_TreeApart.l0 k n (a.1) (a.2.1) (a.2.2) h)) (fun a h => rfl) (fun n a h => by kernel_rfl)
    (by
      have e : need (corbellaw18_TreeApart.an k) corbellaw18_TreeApart.c122 244 = [(Code.loop corbellaw18_TreeApart.c32063482, lrun [(0, .sl), (4, (.int .i64)), (5, .sl), (7, .str), (8, .str), (9, .sl), (11, (.int .i64)), (119, (.int .i64)), (120, (.int .i64))] (some [(2, .bool)]) [] 3 (fun a h => corbellaw18_TreeApart.l1 k k (a.1) (a.2.1) (a.2.2.1) (a.2.2.2.1) (a.2.2.2.2.1) (a.2.2.2.2.2.1) (a.2.2.2.2.2.2.1) (a.2.2.2.2.2.2.2.1) (a.2.2.2.2.2.2.2.2) h))] := by kernel_rfl
      rw [e]; intro q hq
      rcases List.mem_cons.1 hq with rfl | hq
      · exact corbellaw18_TreeApart.l1_pass hX hK49 hK110 hK114 k k
      cases hq) n
set_option maxRecDepth 100000 in
theorem corbellaw18_TreeApart.eq (k : Nat) (a : RT [.sl]) (h : H) : (fun a h => corbellaw18_TreeApart.f k a h) a h = kfun Try.prog (corbellaw18_TreeApart.T k) (corbellaw18_TreeApart.an k) (RT [.bool] × H) Try.f13 (encL [.sl] a) h (fun vs h' => (decL [.bool] vs).bind fun x => some (x, h')) := by kernel_rfl
set_option maxRecDepth 100000 in
theorem corbellaw18_TreeApart.told {C : FuncId → Bool} {X : CallF} (hX : XOk C X) (hK49 : KOk X 49) (hK110 : InsOk X 110) (hK114 : CmpOk X 114) (k : Nat) : Den.Told Try.prog C X 13 [.sl] [.bool] (fun a h => corbellaw18_TreeApart.f k a h) :=
  told_of fun a h q e => fn_of (c := corbellaw18_TreeApart.body) (corbellaw18_TreeApart.TS hX hK49 hK110 hK114 k) Try.func13 (by kernel_rfl) (hX.no 13 _ h (by decide))
    (by
      have e : need (corbellaw18_TreeApart.an k) corbellaw18_TreeApart.body 1 = [(Code.loop corbellaw18_TreeApart.c122, lrun [(0, .sl), (3, .sl), (4, (.int .i64))] (some [(2, .bool)]) [] 0 (fun a h => corbellaw18_TreeApart.l0 k k (a.1) (a.2.1) (a.2.2) h))] := by kernel_rfl
      rw [e]; intro q hq
      rcases List.mem_cons.1 hq with rfl | hq
      · exact corbellaw18_TreeApart.l0_pass hX hK49 hK110 hK114 k k
      cases hq)
    ((corbellaw18_TreeApart.eq k a h).symm.trans e)
/-! ### corbel/corbellaw18.TreeSizes -/
/-! ### slices.Equal[[]int,int] -/
/-! ### corbel/tree.Same$1 -/
/-! ### slices.EqualFunc[[]corbel/api.Volume,[]corbel/api.Volume,corbel/api.Volume,corbel/api.Volume] -/
/-! ### corbel/tree.Same -/
/-! ### corbel/corbellaw18.TreeOrders -/
/-! ### corbel/corbelref16.Delete -/
/-! ### corbel/corbelref16.Resize -/
/-! ### corbel/corbellaw18.do -/
/-! ### corbel/tree.Counts -/
/-! ### corbel/corbelref16.Counts -/
/-! ### corbel/corbellaw18.TreeActs -/
end Go.Proofs.Ytfenkpghcbohdaa.Fwd
