/- Forward runs of functions of the program, printed by a program of this session: each function on plain values and memory, and that the code comes to it. No condition. -/
import Derived.Test.YtfenkpghcbohdaaDenCmp
import Derived.KernelRfl
import Derived.Test.YtfenkpghcbohdaaFIns
import Derived.Test.YtfenkpghcbohdaaFKn38
import Derived.Test.YtfenkpghcbohdaaFKn49
import Derived.Test.YtfenkpghcbohdaaFMeta
import Derived.Test.YtfenkpghcbohdaaFRoot
import Derived.Test.YtfenkpghcbohdaaFTree
namespace Go.Proofs.Ytfenkpghcbohdaa.Fwd
open Go Den
set_option linter.unusedVariables false
/-! ### corbel/corbellaw18.TreeKnown -/
noncomputable def corbellaw18_TreeKnown.l0 (k : Nat) (n : Nat) : Sl → Int → Int → Int → Int → Int → Int → Int → Int → Int → Sl → Int → Sl → Int → Sl → Int → H → Option ((Sl) × H) :=
  Nat.rec (motive := fun _ => Sl → Int → Int → Int → Int → Int → Int → Int → Int → Int → Sl → Int → Sl → Int → Sl → Int → H → Option ((Sl) × H)) (fun _ _ _ _ _ _ _ _ _ _ _ _ _ _ _ _ _ => none) (fun _ ih x25 x26 x27 x28 x29 x30 x31 x32 x33 x34 x35 x36 x37 x38 x39 x40 h41 => cond (decide (x40 < (12 : Int)))
      ((asT (txt (newR h41 5 1 [(Value.int .u8 (wrapA .u8 (wrapA .i64 ((97 : Int) + x40))))]) (Value.slice (some ⟨h41.next, 0, none⟩) 1 1))).bind fun s42 =>
    (asT (strA .add (⟨#[118]⟩ : ByteArray) s42)).bind fun s43 =>
    (tree_Create.f k x39 s43 (0 : Int) (newR h41 5 1 [(Value.int .u8 (wrapA .u8 (wrapA .i64 ((97 : Int) + x40))))])).bind fun q44 =>
    ih x25 x26 x27 x28 x29 x30 x31 x32 x33 x34 x35 x36 x37 x38 q44.1.1 (wrapA .i64 (x40 + (1 : Int))) q44.2)
      (some (x39, h41))) n
theorem corbellaw18_TreeKnown.l0_zero (k : Nat) (x25 : Sl) (x26 : Int) (x27 : Int) (x28 : Int) (x29 : Int) (x30 : Int) (x31 : Int) (x32 : Int) (x33 : Int) (x34 : Int) (x35 : Sl) (x36 : Int) (x37 : Sl) (x38 : Int) (x39 : Sl) (x40 : Int) (h41 : H) : corbellaw18_TreeKnown.l0 k 0 x25 x26 x27 x28 x29 x30 x31 x32 x33 x34 x35 x36 x37 x38 x39 x40 h41 = none := rfl
theorem corbellaw18_TreeKnown.l0_succ (k n : Nat) (x25 : Sl) (x26 : Int) (x27 : Int) (x28 : Int) (x29 : Int) (x30 : Int) (x31 : Int) (x32 : Int) (x33 : Int) (x34 : Int) (x35 : Sl) (x36 : Int) (x37 : Sl) (x38 : Int) (x39 : Sl) (x40 : Int) (h41 : H) : corbellaw18_TreeKnown.l0 k (n + 1) x25 x26 x27 x28 x29 x30 x31 x32 x33 x34 x35 x36 x37 x38 x39 x40 h41 = (cond (decide (x40 < (12 : Int)))
      ((asT (txt (newR h41 5 1 [(Value.int .u8 (wrapA .u8 (wrapA .i64 ((97 : Int) + x40))))]) (Value.slice (some ⟨h41.next, 0, none⟩) 1 1))).bind fun s42 =>
    (asT (strA .add (⟨#[118]⟩ : ByteArray) s42)).bind fun s43 =>
    (tree_Create.f k x39 s43 (0 : Int) (newR h41 5 1 [(Value.int .u8 (wrapA .u8 (wrapA .i64 ((97 : Int) + x40))))])).bind fun q44 =>
    corbellaw18_TreeKnown.l0 k n x25 x26 x27 x28 x29 x30 x31 x32 x33 x34 x35 x36 x37 x38 q44.1.1 (wrapA .i64 (x40 + (1 : Int))) q44.2)
      (some (x39, h41))) := rfl
noncomputable def corbellaw18_TreeKnown.f (k : Nat) (h : H) : Option ((Bool) × H) :=
  (tree_Create.f k (⟨none, 0, 0⟩ : Sl) (⟨#[109]⟩ : ByteArray) (16 : Int) h).bind fun q1 =>
    (cond (!true) (some (true, q1.2))
      (some ((Int.ofNat q1.1.1.n) != (1 : Int), q1.2))).bind fun g2 =>
    (cond g2.1 (some (true, g2.2))
      ((asP (ixs 5 q1.1.1.a q1.1.1.n (0 : Int))).bind fun p3 =>
    (asP (fadd 4 p3)).bind fun p4 =>
    (asS (ldc g2.2 p4)).bind fun s5 =>
    some ((Int.ofNat s5.n) != (2 : Int), g2.2))).bind fun g6 =>
    cond g6.1
      (some (false, g6.2))
      ((asP (ixs 5 q1.1.1.a q1.1.1.n (0 : Int))).bind fun p7 =>
    (asP (fadd 4 p7)).bind fun p8 =>
    (asS (ldc g6.2 p8)).bind fun s9 =>
    (asP (ixs 1 s9.a s9.n (1 : Int))).bind fun p10 =>
    (stv 1 g6.2 p10 [(Value.int .i64 (20 : Int))]).bind fun q11 =>
    (tree_Snapshot.f k q1.1.1 (⟨#[109]⟩ : ByteArray) (⟨#[115]⟩ : ByteArray) q11.2).bind fun q12 =>
    (tree_Clone.f k q12.1.1 (⟨#[115]⟩ : ByteArray) (⟨#[107]⟩ : ByteArray) q12.2).bind fun q13 =>
    cond ((Int.ofNat q13.1.1.n) != (3 : Int))
      (some (false, q13.2))
      ((tree_Create.f k q13.1.1 (⟨#[109]⟩ : ByteArray) (8 : Int) q13.2).bind fun q14 =>
    (tree_Create.f k q13.1.1 (⟨#[120]⟩ : ByteArray) (7 : Int) q14.2).bind fun q15 =>
    (tree_Create.f k q13.1.1 (⟨#[88]⟩ : ByteArray) (8 : Int) q15.2).bind fun q16 =>
    (tree_Snapshot.f k q13.1.1 (⟨#[110, 111, 110, 101]⟩ : ByteArray) (⟨#[121]⟩ : ByteArray) q16.2).bind fun q17 =>
    (tree_Snapshot.f k q13.1.1 (⟨#[115]⟩ : ByteArray) (⟨#[121]⟩ : ByteArray) q17.2).bind fun q18 =>
    (tree_Clone.f k q13.1.1 (⟨#[109]⟩ : ByteArray) (⟨#[121]⟩ : ByteArray) q18.2).bind fun q19 =>
    (tree_Resize.f k q13.1.1 (⟨#[115]⟩ : ByteArray) (8 : Int) q19.2).bind fun q20 =>
    (tree_Resize.f k q13.1.1 (⟨#[109]⟩ : ByteArray) (9 : Int) q20.2).bind fun q21 =>
    (tree_Delete.f k q13.1.1 (⟨#[110, 111, 110, 101]⟩ : ByteArray) q21.2).bind fun q22 =>
    (tree_Delete.f k q13.1.1 (⟨#[109]⟩ : ByteArray) q22.2).bind fun q23 =>
    (tree_Resize.f k q13.1.1 (⟨#[109]⟩ : ByteArray) (8 : Int) q23.2).bind fun q24 =>
    (corbellaw18_TreeKnown.l0 k k q13.1.1 q14.1.2 q15.1.2 q16.1.2 q17.1.2 q18.1.2 q19.1.2 q20.1.2 q21.1.2 q22.1.2 q23.1.1 q23.1.2 q24.1.1 q24.1.2 (⟨none, 0, 0⟩ : Sl) (0 : Int) q24.2).bind fun w45 =>
    (tree_Create.f k w45.1 (⟨#[119]⟩ : ByteArray) (0 : Int) w45.2).bind fun q46 =>
    (tree_Counts.f k q13.1.1 q46.2).bind fun q47 =>
    (tree_Find.f k q13.1.1 (⟨#[107]⟩ : ByteArray) q47.2).bind fun q48 =>
    (stv 5 (newR q48.2 58 5 [(Value.string (⟨#[]⟩ : ByteArray)), (Value.string (⟨#[]⟩ : ByteArray)), (Value.bool false), (Value.int .i64 (0 : Int)), (Value.slice none 0 0)]) (some ⟨q48.2.next, 0, none⟩) [(Value.string q48.1.1.1), (Value.string q48.1.1.2.1), (Value.bool q48.1.1.2.2.1), (Value.int .i64 q48.1.1.2.2.2.1), (Value.slice q48.1.1.2.2.2.2.a q48.1.1.2.2.2.2.n q48.1.1.2.2.2.2.c)]).bind fun q49 =>
    (tree_Find.f k q13.1.1 (⟨#[122]⟩ : ByteArray) q49.2).bind fun q50 =>
    (stv 5 (newR q50.2 58 5 [(Value.string (⟨#[]⟩ : ByteArray)), (Value.string (⟨#[]⟩ : ByteArray)), (Value.bool false), (Value.int .i64 (0 : Int)), (Value.slice none 0 0)]) (some ⟨q50.2.next, 0, none⟩) [(Value.string q50.1.1.1), (Value.string q50.1.1.2.1), (Value.bool q50.1.1.2.2.1), (Value.int .i64 q50.1.1.2.2.2.1), (Value.slice q50.1.1.2.2.2.2.a q50.1.1.2.2.2.2.n q50.1.1.2.2.2.2.c)]).bind fun q51 =>
    (asS2 (apv 58 5 72 (Value.slice (some ⟨q51.2.next, 0, none⟩) 0 0) (Value.slice q13.1.1.a q13.1.1.n q13.1.1.c) (newR q51.2 58 5 []))).bind fun q52 =>
    (asP (ixs 5 q52.1.a q52.1.n (0 : Int))).bind fun p53 =>
    (asP (fadd 1 p53)).bind fun p54 =>
    (stv 1 q52.2 p54 [(Value.string (⟨#[109]⟩ : ByteArray))]).bind fun q55 =>
    (cond ((Int.ofNat q23.1.1.n) != (2 : Int)) (some (true, q55.2))
      (some ((Int.ofNat q24.1.1.n) != (3 : Int), q55.2))).bind fun g56 =>
    (cond g56.1 (some (true, g56.2))
      ((asP (ixs 5 q24.1.1.a q24.1.1.n (1 : Int))).bind fun p57 =>
    (asP (fadd 4 p57)).bind fun p58 =>
    (asS (ldc g56.2 p58)).bind fun s59 =>
    some ((Int.ofNat s59.n) != (1 : Int), g56.2))).bind fun g60 =>
    cond g60.1
      (some (false, g60.2))
      ((cond (q14.1.2 == (11 : Int)) (some (q15.1.2 == (1 : Int), g60.2))
      (some (false, g60.2))).bind fun g61 =>
    (cond g61.1 (some (q16.1.2 == (1 : Int), g61.2))
      (some (false, g61.2))).bind fun g62 =>
    (cond g62.1 (some (q17.1.2 == (7 : Int), g62.2))
      (some (false, g62.2))).bind fun g63 =>
    (cond g63.1 (some (q18.1.2 == (10 : Int), g63.2))
      (some (false, g63.2))).bind fun g64 =>
    (cond g64.1 (some (q19.1.2 == (10 : Int), g64.2))
      (some (false, g64.2))).bind fun g65 =>
    (cond g65.1 (some (q20.1.2 == (10 : Int), g65.2))
      (some (false, g65.2))).bind fun g66 =>
    (cond g66.1 (some (q21.1.2 == (1 : Int), g66.2))
      (some (false, g66.2))).bind fun g67 =>
    (cond g67.1 (some (q22.1.2 == (7 : Int), g67.2))
      (some (false, g67.2))).bind fun g68 =>
    (cond g68.1 (some (q23.1.2 == (0 : Int), g68.2))
      (some (false, g68.2))).bind fun g69 =>
    (cond g69.1 ((asP (ixs 5 q23.1.1.a q23.1.1.n (1 : Int))).bind fun p70 =>
    (asP (fadd 1 p70)).bind fun p71 =>
    (asT (ldc g69.2 p71)).bind fun s72 =>
    some (s72.toList == (⟨#[]⟩ : ByteArray).toList, g69.2))
      (some (false, g69.2))).bind fun g73 =>
    (cond g73.1 ((asP (ixs 5 q23.1.1.a q23.1.1.n (0 : Int))).bind fun p74 =>
    (asP (fadd 1 p74)).bind fun p75 =>
    (asT (ldc g73.2 p75)).bind fun s76 =>
    some (s76.toList == (⟨#[115]⟩ : ByteArray).toList, g73.2))
      (some (false, g73.2))).bind fun g77 =>
    (cond g77.1 (some (q24.1.2 == (0 : Int), g77.2))
      (some (false, g77.2))).bind fun g78 =>
    (cond g78.1 ((asP (ixs 5 q24.1.1.a q24.1.1.n (1 : Int))).bind fun p79 =>
    (asP (fadd 3 p79)).bind fun p80 =>
    (asI .i64 (ldc g78.2 p80)).bind fun n81 =>
    some (n81 == (8 : Int), g78.2))
      (some (false, g78.2))).bind fun g82 =>
    (cond g82.1 (some (q46.1.2 == (6 : Int), g82.2))
      (some (false, g82.2))).bind fun g83 =>
    (cond g83.1 ((asI .i64 (mlook (Value.int .i64 (0 : Int)) g83.2 q47.1 (Value.int .i64 (20 : Int)))).bind fun n84 =>
    some (n84 == (3 : Int), g83.2))
      (some (false, g83.2))).bind fun g85 =>
    (cond g85.1 ((asI2 .i64 (mlenP g85.2 q47.1)).bind fun q86 =>
    some (q86.1 == (1 : Int), q86.2))
      (some (false, g85.2))).bind fun g87 =>
    (cond g87.1 (some (q48.1.2, g87.2))
      (some (false, g87.2))).bind fun g88 =>
    (cond g88.1 ((asT (ldc g88.2 (some ⟨q48.2.next, 1, none⟩))).bind fun s89 =>
    some (s89.toList == (⟨#[115]⟩ : ByteArray).toList, g88.2))
      (some (false, g88.2))).bind fun g90 =>
    (cond g90.1 ((asB (ldc g90.2 (some ⟨q48.2.next, 2, none⟩))).bind fun b91 =>
    some (!b91, g90.2))
      (some (false, g90.2))).bind fun g92 =>
    (cond g92.1 (some (!q50.1.2, g92.2))
      (some (false, g92.2))).bind fun g93 =>
    (cond g93.1 ((tree_Right.f k q52.1 g93.2).bind fun q94 =>
    some (!q94.1, q94.2))
      (some (false, g93.2))).bind fun g95 =>
    (cond g95.1 ((tree_Right.f k q13.1.1 g95.2).bind fun q96 =>
    some (q96.1, q96.2))
      (some (false, g95.2))).bind fun g97 =>
    (cond g97.1 ((tree_Same.f k q13.1.1 q52.1 g97.2).bind fun q98 =>
    some (!q98.1, q98.2))
      (some (false, g97.2))).bind fun g99 =>
    (cond g99.1 ((tree_IsName.f k (⟨#[97, 49]⟩ : ByteArray) g99.2).bind fun q100 =>
    some (q100.1, q100.2))
      (some (false, g99.2))).bind fun g101 =>
    (cond g101.1 ((tree_IsName.f k (⟨#[]⟩ : ByteArray) g101.2).bind fun q102 =>
    some (!q102.1, q102.2))
      (some (false, g101.2))).bind fun g103 =>
    (cond g103.1 ((tree_IsName.f k (⟨#[97, 45, 98]⟩ : ByteArray) g103.2).bind fun q104 =>
    some (!q104.1, q104.2))
      (some (false, g103.2))).bind fun g105 =>
    some (g105.1, g105.2))))
noncomputable def corbellaw18_TreeKnown.T (k : Nat) : Tbl := tblOf [⟨51, anyArgs, wr [.sl, .str, (.int .i64)] [.sl, (.int .i64)] (fun a h => tree_Create.f k (a.1) (a.2.1) (a.2.2) h)⟩,
  ⟨49, anyArgs, knownW⟩,
  ⟨52, anyArgs, wr [.sl, .str, .str] [.sl, (.int .i64)] (fun a h => tree_Snapshot.f k (a.1) (a.2.1) (a.2.2) h)⟩,
  ⟨53, anyArgs, wr [.sl, .str, .str] [.sl, (.int .i64)] (fun a h => tree_Clone.f k (a.1) (a.2.1) (a.2.2) h)⟩,
  ⟨55, anyArgs, wr [.sl, .str, (.int .i64)] [.sl, (.int .i64)] (fun a h => tree_Resize.f k (a.1) (a.2.1) (a.2.2) h)⟩,
  ⟨54, anyArgs, wr [.sl, .str] [.sl, (.int .i64)] (fun a h => tree_Delete.f k (a.1) (a.2) h)⟩,
  ⟨62, anyArgs, wr [.sl] [.map] (fun a h => tree_Counts.f k a h)⟩,
  ⟨64, anyArgs, wr [.sl, .str] [(.st [.str, .str, .bool, (.int .i64), .sl]), .bool] (fun a h => tree_Find.f k (a.1) (a.2) h)⟩,
  ⟨56, anyArgs, wr [.sl] [.bool] (fun a h => tree_Right.f k a h)⟩,
  ⟨60, anyArgs, wr [.sl, .sl] [.bool] (fun a h => tree_Same.f k (a.1) (a.2) h)⟩,
  ⟨65, anyArgs, wr [.str] [.bool] (fun a h => tree_IsName.f k a h)⟩]
noncomputable def corbellaw18_TreeKnown.an (k : Nat) (p : Nat) : Option Ann := cond (Nat.beq p 8388602) (some (.pass [5, 8, 10, 12, 14, 16, 18, 20, 22, 24, 25, 26, 27, 28] (lrun [(5, .sl), (8, (.int .i64)), (10, (.int .i64)), (12, (.int .i64)), (14, (.int .i64)), (16, (.int .i64)), (18, (.int .i64)), (20, (.int .i64)), (22, (.int .i64)), (24, (.int .i64)), (25, .sl), (26, (.int .i64)), (27, .sl), (28, (.int .i64)), (29, .sl), (30, (.int .i64))] none [(29, .sl)] 0 (fun a h => corbellaw18_TreeKnown.l0 k k (a.1) (a.2.1) (a.2.2.1) (a.2.2.2.1) (a.2.2.2.2.1) (a.2.2.2.2.2.1) (a.2.2.2.2.2.2.1) (a.2.2.2.2.2.2.2.1) (a.2.2.2.2.2.2.2.2.1) (a.2.2.2.2.2.2.2.2.2.1) (a.2.2.2.2.2.2.2.2.2.2.1) (a.2.2.2.2.2.2.2.2.2.2.2.1) (a.2.2.2.2.2.2.2.2.2.2.2.2.1) (a.2.2.2.2.2.2.2.2.2.2.2.2.2.1) (a.2.2.2.2.2.2.2.2.2.2.2.2.2.2.1) (a.2.2.2.2.2.2.2.2.2.2.2.2.2.2.2) h))))
  (none)
noncomputable def corbellaw18_TreeKnown.body : Code := (Try.f17.body).getD .skip
noncomputable def corbellaw18_TreeKnown.c8388602 : Code := cat corbellaw18_TreeKnown.body [1, 1, 1, 1, 1, 1, 1, 1, 1, 1, 1, 1, 1, 1, 1, 1, 1, 1, 1, 0, 1, 0, 0]
set_option maxRecDepth 100000 in
theorem corbellaw18_TreeKnown.TS {C : FuncId → Bool} {X : CallF} (hX : XOk C X) (hK49 : KOk X 49) (hK110 : InsOk X 110) (hK114 : CmpOk X 114) (k : Nat) : TblS Try.prog C X (corbellaw18_TreeKnown.T k) := by
  refine tblOf_sound ?_
  intro e he
  rcases List.mem_cons.1 he with rfl | he
  · exact wr_told (tree_Create.told hX hK110 hK114 k)
  rcases List.mem_cons.1 he with rfl | he
  · exact knownW_told hK49
  rcases List.mem_cons.1 he with rfl | he
  · exact wr_told (tree_Snapshot.told hX hK110 hK114 k)
  rcases List.mem_cons.1 he with rfl | he
  · exact wr_told (tree_Clone.told hX hK110 hK114 k)
  rcases List.mem_cons.1 he with rfl | he
  · exact wr_told (tree_Resize.told hX hK114 k)
  rcases List.mem_cons.1 he with rfl | he
  · exact wr_told (tree_Delete.told hX hK114 k)
  rcases List.mem_cons.1 he with rfl | he
  · exact wr_told (tree_Counts.told hX k)
  rcases List.mem_cons.1 he with rfl | he
  · exact wr_told (tree_Find.told hX k)
  rcases List.mem_cons.1 he with rfl | he
  · exact wr_told (tree_Right.told hX hK114 k)
  rcases List.mem_cons.1 he with rfl | he
  · exact wr_told (tree_Same.told hX k)
  rcases List.mem_cons.1 he with rfl | he
  · exact wr_told (tree_IsName.told hX k)
  exact absurd he List.not_mem_nil
set_option maxRecDepth 100000 in
theorem corbellaw18_TreeKnown.l0_pass {C : FuncId → Bool} {X : CallF} (hX : XOk C X) (hK49 : KOk X 49) (hK110 : InsOk X 110) (hK114 : CmpOk X 114) (k n : Nat) : PassS Try.prog C X 305 (.loop corbellaw18_TreeKnown.c8388602) (lrun [(5, .sl), (8, (.int .i64)), (10, (.int .i64)), (12, (.int .i64)), (14, (.int .i64)), (16, (.int .i64)), (18, (.int .i64)), (20, (.int .i64)), (22, (.int .i64)), (24, (.int .i64)), (25, .sl), (26, (.int .i64)), (27, .sl), (28, (.int .i64)), (29, .sl), (30, (.int .i64))] none [(29, .sl)] 0 (fun a h => corbellaw18_TreeKnown.l0 k n (a.1) (a.2.1) (a.2.2.1) (a.2.2.2.1) (a.2.2.2.2.1) (a.2.2.2.2.2.1) (a.2.2.2.2.2.2.1) (a.2.2.2.2.2.2.2.1) (a.2.2.2.2.2.2.2.2.1) (a.2.2.2.2.2.2.2.2.2.1) (a.2.2.2.2.2.2.2.2.2.2.1) (a.2.2.2.2.2.2.2.2.2.2.2.1) (a.2.2.2.2.2.2.2.2.2.2.2.2.1) (a.2.2.2.2.2.2.2.2.2.2.2.2.2.1) (a.2.2.2.2.2.2.2.2.2.2.2.2.2.2.1) (a.2.2.2.2.2.2.2.2.2.2.2.2.2.2.2) h)) :=
  loop_pass (ins := [(5, .sl), (8, (.int .i64)), (10, (.int .i64)), (12, (.int .i64)), (14, (.int .i64)), (16, (.int .i64)), (18, (.int .i64)), (20, (.int .i64)), (22, (.int .i64)), (24, (.int .i64)), (25, .sl), (26, (.int .i64)), (27, .sl), (28, (.int .i64)), (29, .sl), (30, (.int .i64))]) (rets := none) (outs := [(29, .sl)]) (id := 0) (tbl := corbellaw18_TreeKnown.T k) (an := corbellaw18_TreeKnown.an k) (pb := 16777204) (corbellaw18_TreeKnown.TS hX hK49 hK110 hK114 k) (fun n => (fun a h => corbellaw18_TreeKnown.l0 k n (a.1) (a.2.1) (a.2.2.1) (a.2.2.2.1) (a.2.2.2.2.1) (a.2.2.2.2.2.1) (a.2.2.2.2.2.2.1) (a.2.2.2.2.2.2.2.1) (a.2.2.2.2.2.2.2.2.1) (a.2.2.2.2.2.2.2.2.2.1) (a.2.2.2.2.2.2.2.2.2.2.1) (a.2.2.2.2.2.2.2.2.2.2.2.1) (a.2.2.2.2.2.2.2.2.2.2.2.2.1) (a.2.2.2.2.2.2.2.2.2.2.2.2.2.1) (a.2.2.2.2.2.2.2.2.2.2.2.2.2.2.1) (a.2.2.2.2.2.2.2.2.2.2.2.2.2.2.2) h)) (fun a h => rfl) (fun n a h => by kernel_rfl)
    (by
      have e : need (corbellaw18_TreeKnown.an k) corbellaw18_TreeKnown.c8388602 16777204 = [] := by kernel_rfl
      rw [e]; intro q hq; cases hq) n
set_option maxRecDepth 100000 in
theorem corbellaw18_TreeKnown.eq (k : Nat) (a : RT []) (h : H) : (fun a h => corbellaw18_TreeKnown.f k h) a h = kfun Try.prog (corbellaw18_TreeKnown.T k) (corbellaw18_TreeKnown.an k) (RT [.bool] × H) Try.f17 (encL [] a) h (fun vs h' => (decL [.bool] vs).bind fun x => some (x, h')) := by kernel_rfl
set_option maxRecDepth 100000 in
theorem corbellaw18_TreeKnown.told {C : FuncId → Bool} {X : CallF} (hX : XOk C X) (hK49 : KOk X 49) (hK110 : InsOk X 110) (hK114 : CmpOk X 114) (k : Nat) : Den.Told Try.prog C X 17 [] [.bool] (fun a h => corbellaw18_TreeKnown.f k h) :=
  told_of fun a h q e => fn_of (c := corbellaw18_TreeKnown.body) (corbellaw18_TreeKnown.TS hX hK49 hK110 hK114 k) Try.func17 (by kernel_rfl) (hX.no 17 _ h (by decide))
    (by
      have e : need (corbellaw18_TreeKnown.an k) corbellaw18_TreeKnown.body 1 = [(Code.loop corbellaw18_TreeKnown.c8388602, lrun [(5, .sl), (8, (.int .i64)), (10, (.int .i64)), (12, (.int .i64)), (14, (.int .i64)), (16, (.int .i64)), (18, (.int .i64)), (20, (.int .i64)), (22, (.int .i64)), (24, (.int .i64)), (25, .sl), (26, (.int .i64)), (27, .sl), (28, (.int .i64)), (29, .sl), (30, (.int .i64))] none [(29, .sl)] 0 (fun a h => corbellaw18_TreeKnown.l0 k k (a.1) (a.2.1) (a.2.2.1) (a.2.2.2.1) (a.2.2.2.2.1) (a.2.2.2.2.2.1) (a.2.2.2.2.2.2.1) (a.2.2.2.2.2.2.2.1) (a.2.2.2.2.2.2.2.2.1) (a.2.2.2.2.2.2.2.2.2.1) (a.2.2.2.2.2.2.2.2.2.2.1) (a.2.2.2.2.2.2.2.2.2.2.2.1) (a.2.2.2.2.2.2.2.2.2.2.2.2.1) (a.2.2.2.2.2.2.2.2.2.2.2.2.2.1) (a.2.2.2.2.2.2.2.2.2.2.2.2.2.2.1) (a.2.2.2.2.2.2.2.2.2.2.2.2.2.2.2) h))] := by kernel_rfl
      rw [e]; intro q hq
      rcases List.mem_cons.1 hq with rfl | hq
      · exact corbellaw18_TreeKnown.l0_pass hX hK49 hK110 hK114 k k
      cases hq)
    ((corbellaw18_TreeKnown.eq k a h).symm.trans e)
end Go.Proofs.Ytfenkpghcbohdaa.Fwd
