/- Forward runs of functions of the program, printed by a program of this session: each function on plain values and memory, and that the code comes to it. No condition. -/
import Derived.Test.YtbegaeohggkblaaDenZ
import Derived.KernelRfl
import Derived.Test.YtbegaeohggkblaaFPlat
import Derived.Test.YtbegaeohggkblaaFRefP
namespace Go.Proofs.Ytbegaeohggkblaa.Fwd
open Go Den
set_option linter.unusedVariables false
/-! ### corbel/corbellaw7.PlatterKeeps -/
noncomputable def corbellaw7_PlatterKeeps.l2 (k : Nat) (n : Nat) : Sl → Int → Sl → (Option Addr) → (Option Addr) → Int → (Option Addr) → Int → Int → H → Option ((Unit) × H) :=
  Nat.rec (motive := fun _ => Sl → Int → Sl → (Option Addr) → (Option Addr) → Int → (Option Addr) → Int → Int → H → Option ((Unit) × H)) (fun _ _ _ _ _ _ _ _ _ _ => none) (fun _ ih x42 x43 x44 x45 x46 x47 x48 x49 x50 h51 => cond (decide (x50 < (6 : Int)))
      ((asP (ixs 1 x48 6 x50)).bind fun p52 =>
    (asI .u8 (ldc (h51.new (.map [] 0 h51.clock)) p52)).bind fun n53 =>
    (mput (some h51.next) (Value.int .u8 n53) (Value.bool true) (h51.new (.map [] 0 h51.clock))).bind fun q54 =>
    (asP (ixs 1 x46 6 x50)).bind fun p55 =>
    (stv 1 q54.2 p55 [(Value.map (some h51.next))]).bind fun q56 =>
    ih x42 x43 x44 x45 x46 x47 x48 x49 (wrapA .i64 (x50 + (1 : Int))) q56.2)
      (some ((), h51))) n
theorem corbellaw7_PlatterKeeps.l2_zero (k : Nat) (x42 : Sl) (x43 : Int) (x44 : Sl) (x45 : Option Addr) (x46 : Option Addr) (x47 : Int) (x48 : Option Addr) (x49 : Int) (x50 : Int) (h51 : H) : corbellaw7_PlatterKeeps.l2 k 0 x42 x43 x44 x45 x46 x47 x48 x49 x50 h51 = none := rfl
theorem corbellaw7_PlatterKeeps.l2_succ (k n : Nat) (x42 : Sl) (x43 : Int) (x44 : Sl) (x45 : Option Addr) (x46 : Option Addr) (x47 : Int) (x48 : Option Addr) (x49 : Int) (x50 : Int) (h51 : H) : corbellaw7_PlatterKeeps.l2 k (n + 1) x42 x43 x44 x45 x46 x47 x48 x49 x50 h51 = (cond (decide (x50 < (6 : Int)))
      ((asP (ixs 1 x48 6 x50)).bind fun p52 =>
    (asI .u8 (ldc (h51.new (.map [] 0 h51.clock)) p52)).bind fun n53 =>
    (mput (some h51.next) (Value.int .u8 n53) (Value.bool true) (h51.new (.map [] 0 h51.clock))).bind fun q54 =>
    (asP (ixs 1 x46 6 x50)).bind fun p55 =>
    (stv 1 q54.2 p55 [(Value.map (some h51.next))]).bind fun q56 =>
    corbellaw7_PlatterKeeps.l2 k n x42 x43 x44 x45 x46 x47 x48 x49 (wrapA .i64 (x50 + (1 : Int))) q56.2)
      (some ((), h51))) := rfl
noncomputable def corbellaw7_PlatterKeeps.l3 (k : Nat) (n : Nat) : (Option Addr) → (Option Addr) → Int → H → Option (((Bool) ⊕ (Unit)) × H) :=
  Nat.rec (motive := fun _ => (Option Addr) → (Option Addr) → Int → H → Option (((Bool) ⊕ (Unit)) × H)) (fun _ _ _ _ => none) (fun _ ih x63 x64 x65 h66 => cond (decide (x65 < (6 : Int)))
      ((platter_Platter_Read.f k x63 x65 h66).bind fun q67 =>
    (cond (!q67.1.2) (some (true, q67.2, [], []))
      (some ((Int.ofNat q67.1.1.n) != (160 : Int), q67.2, [], [])) : Option (Bool × H × LEs × EFs)).bind fun g68 =>
    (cond g68.1 (some (true, g68.2.1, [], []))
      ((asP (ixs 1 x64 6 x65)).bind fun p69 =>
    (asM (ldc g68.2.1 p69)).bind fun m70 =>
    (asP (ixs 1 q67.1.1.a q67.1.1.n (0 : Int))).bind fun p71 =>
    (asI .u8 (ldc g68.2.1 p71)).bind fun n72 =>
    (asB (mlook (Value.bool false) g68.2.1 m70 (Value.int .u8 n72))).bind fun b73 =>
    some (!b73, g68.2.1, [], [])) : Option (Bool × H × LEs × EFs)).bind fun g74 =>
    (cond g74.1 (some (true, g74.2.1, [], []))
      ((asT (txt g74.2.1 (Value.slice q67.1.1.a q67.1.1.n q67.1.1.c))).bind fun s75 =>
    (asP (ixs 1 q67.1.1.a q67.1.1.n (0 : Int))).bind fun p76 =>
    (asI .u8 (ldc g74.2.1 p76)).bind fun n77 =>
    (corbellaw7_all.f k (wrapA .i64 n77) g74.2.1).bind fun q78 =>
    (asT (txt q78.2 (Value.slice q78.1.a q78.1.n q78.1.c))).bind fun s79 =>
    some (!(s75.toList == s79.toList), q78.2, ([(18, none)] ++ [(19, (blkOf (some (Value.slice q67.1.1.a q67.1.1.n q67.1.1.c))))]), [(24, g74.2.1, q78.2)])) : Option (Bool × H × LEs × EFs)).bind fun g80 =>
    cond (dynL [(18, 24), (19, 24)] ((g68.2.2.1 ++ g74.2.2.1) ++ g80.2.2.1) ((g68.2.2.2 ++ g74.2.2.2) ++ g80.2.2.2)) (cond g80.1
      (some (Sum.inl false, g80.2.1))
      (ih x63 x64 (wrapA .i64 (x65 + (1 : Int))) g80.2.1)) none)
      (some (Sum.inr (), h66))) n
theorem corbellaw7_PlatterKeeps.l3_zero (k : Nat) (x63 : Option Addr) (x64 : Option Addr) (x65 : Int) (h66 : H) : corbellaw7_PlatterKeeps.l3 k 0 x63 x64 x65 h66 = none := rfl
theorem corbellaw7_PlatterKeeps.l3_succ (k n : Nat) (x63 : Option Addr) (x64 : Option Addr) (x65 : Int) (h66 : H) : corbellaw7_PlatterKeeps.l3 k (n + 1) x63 x64 x65 h66 = (cond (decide (x65 < (6 : Int)))
      ((platter_Platter_Read.f k x63 x65 h66).bind fun q67 =>
    (cond (!q67.1.2) (some (true, q67.2, [], []))
      (some ((Int.ofNat q67.1.1.n) != (160 : Int), q67.2, [], [])) : Option (Bool × H × LEs × EFs)).bind fun g68 =>
    (cond g68.1 (some (true, g68.2.1, [], []))
      ((asP (ixs 1 x64 6 x65)).bind fun p69 =>
    (asM (ldc g68.2.1 p69)).bind fun m70 =>
    (asP (ixs 1 q67.1.1.a q67.1.1.n (0 : Int))).bind fun p71 =>
    (asI .u8 (ldc g68.2.1 p71)).bind fun n72 =>
    (asB (mlook (Value.bool false) g68.2.1 m70 (Value.int .u8 n72))).bind fun b73 =>
    some (!b73, g68.2.1, [], [])) : Option (Bool × H × LEs × EFs)).bind fun g74 =>
    (cond g74.1 (some (true, g74.2.1, [], []))
      ((asT (txt g74.2.1 (Value.slice q67.1.1.a q67.1.1.n q67.1.1.c))).bind fun s75 =>
    (asP (ixs 1 q67.1.1.a q67.1.1.n (0 : Int))).bind fun p76 =>
    (asI .u8 (ldc g74.2.1 p76)).bind fun n77 =>
    (corbellaw7_all.f k (wrapA .i64 n77) g74.2.1).bind fun q78 =>
    (asT (txt q78.2 (Value.slice q78.1.a q78.1.n q78.1.c))).bind fun s79 =>
    some (!(s75.toList == s79.toList), q78.2, ([(18, none)] ++ [(19, (blkOf (some (Value.slice q67.1.1.a q67.1.1.n q67.1.1.c))))]), [(24, g74.2.1, q78.2)])) : Option (Bool × H × LEs × EFs)).bind fun g80 =>
    cond (dynL [(18, 24), (19, 24)] ((g68.2.2.1 ++ g74.2.2.1) ++ g80.2.2.1) ((g68.2.2.2 ++ g74.2.2.2) ++ g80.2.2.2)) (cond g80.1
      (some (Sum.inl false, g80.2.1))
      (corbellaw7_PlatterKeeps.l3 k n x63 x64 (wrapA .i64 (x65 + (1 : Int))) g80.2.1)) none)
      (some (Sum.inr (), h66))) := rfl
noncomputable def corbellaw7_PlatterKeeps.l1 (k : Nat) (n : Nat) : Sl → Int → Sl → (Option Addr) → (Option Addr) → Int → (Option Addr) → Int → H → Option (((Bool) ⊕ (Unit)) × H) :=
  Nat.rec (motive := fun _ => Sl → Int → Sl → (Option Addr) → (Option Addr) → Int → (Option Addr) → Int → H → Option (((Bool) ⊕ (Unit)) × H)) (fun _ _ _ _ _ _ _ _ _ => none) (fun _ ih x17 x18 x19 x20 x21 x22 x23 x24 h25 => cond (decide (x24 < x22))
      ((asP (ixs 4 x17.a x17.n x24)).bind fun p26 =>
    (asP (fadd 1 p26)).bind fun p27 =>
    (asI .i64 (ldc h25 p27)).bind fun n28 =>
    (corbelhand_Pick.f k n28 (6 : Int) h25).bind fun q29 =>
    (asP (ixs 4 x17.a x17.n x24)).bind fun p30 =>
    (asP (fadd 2 p30)).bind fun p31 =>
    (asI .i64 (ldc q29.2 p31)).bind fun n32 =>
    (corbelhand_Pick.f k n32 (250 : Int) q29.2).bind fun q33 =>
    (corbellaw7_all.f k (wrapA .i64 (wrapA .u8 (wrapA .i64 ((1 : Int) + q33.1)))) q33.2).bind fun q34 =>
    (platter_Platter_Write.f k x20 q29.1 q34.1 q34.2).bind fun q35 =>
    cond (!q35.1)
      (some (Sum.inl false, q35.2))
      ((asP (ixs 1 x21 6 q29.1)).bind fun p36 =>
    (asM (ldc q35.2 p36)).bind fun m37 =>
    (mput m37 (Value.int .u8 (wrapA .u8 (wrapA .i64 ((1 : Int) + q33.1)))) (Value.bool true) q35.2).bind fun q38 =>
    (asP (ixs 1 x23 6 q29.1)).bind fun p39 =>
    (stv 1 q38.2 p39 [(Value.int .u8 (wrapA .u8 (wrapA .i64 ((1 : Int) + q33.1))))]).bind fun q40 =>
    (cond ((wrapA .i64 (x24 + (1 : Int))) == x18)
      ((platter_Platter_Flush.f k x20 q40.2).bind fun q41 =>
    (corbellaw7_PlatterKeeps.l2 k k x17 x18 x19 x20 x21 x22 x23 x24 (0 : Int) q41.2).bind fun w57 =>
    some ((), w57.2))
      (some ((), q40.2)) : Option ((Unit) × H)).bind fun j58 =>
    ih x17 x18 x19 x20 x21 x22 x23 (wrapA .i64 (x24 + (1 : Int))) j58.2))
      (some (Sum.inr (), h25))) n
theorem corbellaw7_PlatterKeeps.l1_zero (k : Nat) (x17 : Sl) (x18 : Int) (x19 : Sl) (x20 : Option Addr) (x21 : Option Addr) (x22 : Int) (x23 : Option Addr) (x24 : Int) (h25 : H) : corbellaw7_PlatterKeeps.l1 k 0 x17 x18 x19 x20 x21 x22 x23 x24 h25 = none := rfl
theorem corbellaw7_PlatterKeeps.l1_succ (k n : Nat) (x17 : Sl) (x18 : Int) (x19 : Sl) (x20 : Option Addr) (x21 : Option Addr) (x22 : Int) (x23 : Option Addr) (x24 : Int) (h25 : H) : corbellaw7_PlatterKeeps.l1 k (n + 1) x17 x18 x19 x20 x21 x22 x23 x24 h25 = (cond (decide (x24 < x22))
      ((asP (ixs 4 x17.a x17.n x24)).bind fun p26 =>
    (asP (fadd 1 p26)).bind fun p27 =>
    (asI .i64 (ldc h25 p27)).bind fun n28 =>
    (corbelhand_Pick.f k n28 (6 : Int) h25).bind fun q29 =>
    (asP (ixs 4 x17.a x17.n x24)).bind fun p30 =>
    (asP (fadd 2 p30)).bind fun p31 =>
    (asI .i64 (ldc q29.2 p31)).bind fun n32 =>
    (corbelhand_Pick.f k n32 (250 : Int) q29.2).bind fun q33 =>
    (corbellaw7_all.f k (wrapA .i64 (wrapA .u8 (wrapA .i64 ((1 : Int) + q33.1)))) q33.2).bind fun q34 =>
    (platter_Platter_Write.f k x20 q29.1 q34.1 q34.2).bind fun q35 =>
    cond (!q35.1)
      (some (Sum.inl false, q35.2))
      ((asP (ixs 1 x21 6 q29.1)).bind fun p36 =>
    (asM (ldc q35.2 p36)).bind fun m37 =>
    (mput m37 (Value.int .u8 (wrapA .u8 (wrapA .i64 ((1 : Int) + q33.1)))) (Value.bool true) q35.2).bind fun q38 =>
    (asP (ixs 1 x23 6 q29.1)).bind fun p39 =>
    (stv 1 q38.2 p39 [(Value.int .u8 (wrapA .u8 (wrapA .i64 ((1 : Int) + q33.1))))]).bind fun q40 =>
    (cond ((wrapA .i64 (x24 + (1 : Int))) == x18)
      ((platter_Platter_Flush.f k x20 q40.2).bind fun q41 =>
    (corbellaw7_PlatterKeeps.l2 k k x17 x18 x19 x20 x21 x22 x23 x24 (0 : Int) q41.2).bind fun w57 =>
    some ((), w57.2))
      (some ((), q40.2)) : Option ((Unit) × H)).bind fun j58 =>
    corbellaw7_PlatterKeeps.l1 k n x17 x18 x19 x20 x21 x22 x23 (wrapA .i64 (x24 + (1 : Int))) j58.2))
      (some (Sum.inr (), h25))) := rfl
noncomputable def corbellaw7_PlatterKeeps.l0 (k : Nat) (n : Nat) : Sl → Int → Sl → (Option Addr) → (Option Addr) → Int → H → Option ((Unit) × H) :=
  Nat.rec (motive := fun _ => Sl → Int → Sl → (Option Addr) → (Option Addr) → Int → H → Option ((Unit) × H)) (fun _ _ _ _ _ _ _ => none) (fun _ ih x5 x6 x7 x8 x9 x10 h11 => cond (decide (x10 < (6 : Int)))
      ((mput (some h11.next) (Value.int .u8 (0 : Int)) (Value.bool true) (h11.new (.map [] 0 h11.clock))).bind fun q12 =>
    (asP (ixs 1 x9 6 x10)).bind fun p13 =>
    (stv 1 q12.2 p13 [(Value.map (some h11.next))]).bind fun q14 =>
    ih x5 x6 x7 x8 x9 (wrapA .i64 (x10 + (1 : Int))) q14.2)
      (some ((), h11))) n
theorem corbellaw7_PlatterKeeps.l0_zero (k : Nat) (x5 : Sl) (x6 : Int) (x7 : Sl) (x8 : Option Addr) (x9 : Option Addr) (x10 : Int) (h11 : H) : corbellaw7_PlatterKeeps.l0 k 0 x5 x6 x7 x8 x9 x10 h11 = none := rfl
theorem corbellaw7_PlatterKeeps.l0_succ (k n : Nat) (x5 : Sl) (x6 : Int) (x7 : Sl) (x8 : Option Addr) (x9 : Option Addr) (x10 : Int) (h11 : H) : corbellaw7_PlatterKeeps.l0 k (n + 1) x5 x6 x7 x8 x9 x10 h11 = (cond (decide (x10 < (6 : Int)))
      ((mput (some h11.next) (Value.int .u8 (0 : Int)) (Value.bool true) (h11.new (.map [] 0 h11.clock))).bind fun q12 =>
    (asP (ixs 1 x9 6 x10)).bind fun p13 =>
    (stv 1 q12.2 p13 [(Value.map (some h11.next))]).bind fun q14 =>
    corbellaw7_PlatterKeeps.l0 k n x5 x6 x7 x8 x9 (wrapA .i64 (x10 + (1 : Int))) q14.2)
      (some ((), h11))) := rfl
noncomputable def corbellaw7_PlatterKeeps.f (k : Nat) (a0 : Sl) (a1 : Int) (a2 : Sl) (h : H) : Option ((Bool) × H) :=
  (platter_New.f k (6 : Int) h).bind fun q1 =>
    (cond (!true) (some (true, q1.2))
      ((asB (binO1 Try.prog .eql 42 (Value.pointer q1.1) (Value.pointer none))).bind fun b2 =>
    some (b2, q1.2))).bind fun g3 =>
    cond g3.1
      (some (false, g3.2))
      ((stv 6 (newR g3.2 45 6 [(Value.map none), (Value.map none), (Value.map none), (Value.map none), (Value.map none), (Value.map none)]) (some ⟨g3.2.next, 0, none⟩) [(Value.map none), (Value.map none), (Value.map none), (Value.map none), (Value.map none), (Value.map none)]).bind fun q4 =>
    (corbellaw7_PlatterKeeps.l0 k k a0 a1 a2 q1.1 (some ⟨g3.2.next, 0, none⟩) (0 : Int) q4.2).bind fun w15 =>
    (corbelhand_Pick.f k a1 (wrapA .i64 ((cond (decide ((30 : Int) < (Int.ofNat a0.n))) (30 : Int) (Int.ofNat a0.n)) + (1 : Int))) w15.2).bind fun q16 =>
    (corbellaw7_PlatterKeeps.l1 k k a0 q16.1 a2 q1.1 (some ⟨g3.2.next, 0, none⟩) (cond (decide ((30 : Int) < (Int.ofNat a0.n))) (30 : Int) (Int.ofNat a0.n)) (some ⟨q16.2.next, 0, none⟩) (0 : Int) (newR q16.2 46 6 [(Value.int .u8 (0 : Int)), (Value.int .u8 (0 : Int)), (Value.int .u8 (0 : Int)), (Value.int .u8 (0 : Int)), (Value.int .u8 (0 : Int)), (Value.int .u8 (0 : Int))])).bind fun w59 =>
    match w59.1 with
    | .inl r60 => some (r60, w59.2)
    | .inr o61 => (platter_Platter_Crash.f k q1.1 a2 w59.2).bind fun q62 =>
    (corbellaw7_PlatterKeeps.l3 k k q1.1 (some ⟨g3.2.next, 0, none⟩) (0 : Int) q62.2).bind fun w81 =>
    match w81.1 with
    | .inl r82 => some (r82, w81.2)
    | .inr o83 => (platter_Platter_Pending.f k q1.1 w81.2).bind fun q84 =>
    some ((Int.ofNat q84.1.n) == (0 : Int), q84.2))
noncomputable def corbellaw7_PlatterKeeps.T (k : Nat) : Tbl := tblOf [⟨24, anyArgs, wr [(.int .i64)] [.ptr] (fun a h => platter_New.f k a h)⟩,
  ⟨25, anyArgs, knownW⟩,
  ⟨17, anyArgs, wr [(.int .i64), (.int .i64)] [(.int .i64)] (fun a h => corbelhand_Pick.f k (a.1) (a.2) h)⟩,
  ⟨27, anyArgs, wr [(.int .i64)] [.sl] (fun a h => corbellaw7_all.f k a h)⟩,
  ⟨26, anyArgs, wr [.ptr, (.int .i64), .sl] [.bool] (fun a h => platter_Platter_Write.f k (a.1) (a.2.1) (a.2.2) h)⟩,
  ⟨28, anyArgs, wr [.ptr] [] (fun a h => platter_Platter_Flush.f k a h)⟩,
  ⟨29, anyArgs, wr [.ptr, .sl] [] (fun a h => platter_Platter_Crash.f k (a.1) (a.2) h)⟩,
  ⟨30, anyArgs, wr [.ptr, (.int .i64)] [.sl, .bool] (fun a h => platter_Platter_Read.f k (a.1) (a.2) h)⟩,
  ⟨31, anyArgs, wr [.ptr] [.sl] (fun a h => platter_Platter_Pending.f k a h)⟩]
noncomputable def corbellaw7_PlatterKeeps.an (k : Nat) (p : Nat) : Option Ann := cond (Nat.beq p 16378) (some (.pass [7] (lrun [(7, .ptr), (8, .ptr), (95, (.int .i64))] (some [(6, .bool)]) [] 6 (fun a h => corbellaw7_PlatterKeeps.l3 k k (a.1) (a.2.1) (a.2.2) h))))
  (cond (Nat.beq p 4090) (some (.pass [2, 7, 8] (lrun [(0, .sl), (1, (.int .i64)), (2, .sl), (7, .ptr), (8, .ptr), (10, (.int .i64)), (11, .ptr), (12, (.int .i64))] (some [(6, .bool)]) [] 2 (fun a h => corbellaw7_PlatterKeeps.l1 k k (a.1) (a.2.1) (a.2.2.1) (a.2.2.2.1) (a.2.2.2.2.1) (a.2.2.2.2.2.1) (a.2.2.2.2.2.2.1) (a.2.2.2.2.2.2.2) h))))
  (cond (Nat.beq p 4188479) (some (.join [0, 1, 2, 7, 8, 10, 11, 12] none []))
  (cond (Nat.beq p 67015670) (some (.pass [0, 1, 2, 7, 8, 10, 11, 12] (lrun [(0, .sl), (1, (.int .i64)), (2, .sl), (7, .ptr), (8, .ptr), (10, (.int .i64)), (11, .ptr), (12, (.int .i64)), (81, (.int .i64))] none [] 4 (fun a h => corbellaw7_PlatterKeeps.l2 k k (a.1) (a.2.1) (a.2.2.1) (a.2.2.2.1) (a.2.2.2.2.1) (a.2.2.2.2.2.1) (a.2.2.2.2.2.2.1) (a.2.2.2.2.2.2.2.1) (a.2.2.2.2.2.2.2.2) h))))
  (cond (Nat.beq p 250) (some (.pass [0, 1, 2, 7, 8] (lrun [(0, .sl), (1, (.int .i64)), (2, .sl), (7, .ptr), (8, .ptr), (27, (.int .i64))] none [] 0 (fun a h => corbellaw7_PlatterKeeps.l0 k k (a.1) (a.2.1) (a.2.2.1) (a.2.2.2.1) (a.2.2.2.2.1) (a.2.2.2.2.2) h))))
  (none)))))
noncomputable def corbellaw7_PlatterKeeps.body : Code := (Try.f8.body).getD .skip
noncomputable def corbellaw7_PlatterKeeps.c250 : Code := cat corbellaw7_PlatterKeeps.body [1, 1, 1, 1, 0, 1, 0, 0]
noncomputable def corbellaw7_PlatterKeeps.c4090 : Code := cat corbellaw7_PlatterKeeps.body [1, 1, 1, 1, 1, 1, 1, 1, 0, 1, 0, 0]
noncomputable def corbellaw7_PlatterKeeps.c67015670 : Code := cat corbellaw7_PlatterKeeps.body [1, 1, 1, 1, 1, 1, 1, 1, 0, 1, 0, 0, 1, 0, 0, 1, 1, 1, 1, 1, 1, 0, 1, 1, 0, 0]
noncomputable def corbellaw7_PlatterKeeps.c16378 : Code := cat corbellaw7_PlatterKeeps.body [1, 1, 1, 1, 1, 1, 1, 1, 1, 1, 0, 1, 0, 0]
set_option maxRecDepth 100000 in
theorem corbellaw7_PlatterKeeps.TS {C : FuncId → Bool} {X : CallF} (hX : XOk C X) (hK25 : KOk X 25) (k : Nat) : TblS Try.prog C X (corbellaw7_PlatterKeeps.T k) := by
  refine tblOf_sound ?_
  intro e he
  rcases List.mem_cons.1 he with rfl | he
  · exact wr_told (platter_New.told hX k)
  rcases List.mem_cons.1 he with rfl | he
  · exact knownW_told hK25
  rcases List.mem_cons.1 he with rfl | he
  · exact wr_told (corbelhand_Pick.told hX k)
  rcases List.mem_cons.1 he with rfl | he
  · exact wr_told (corbellaw7_all.told hX k)
  rcases List.mem_cons.1 he with rfl | he
  · exact wr_told (platter_Platter_Write.told hX k)
  rcases List.mem_cons.1 he with rfl | he
  · exact wr_told (platter_Platter_Flush.told hX k)
  rcases List.mem_cons.1 he with rfl | he
  · exact wr_told (platter_Platter_Crash.told hX k)
  rcases List.mem_cons.1 he with rfl | he
  · exact wr_told (platter_Platter_Read.told hX k)
  rcases List.mem_cons.1 he with rfl | he
  · exact wr_told (platter_Platter_Pending.told hX k)
  exact absurd he List.not_mem_nil
set_option maxRecDepth 100000 in
theorem corbellaw7_PlatterKeeps.l2_pass {C : FuncId → Bool} {X : CallF} (hX : XOk C X) (hK25 : KOk X 25) (k n : Nat) : PassS Try.prog C X 137 (.loop corbellaw7_PlatterKeeps.c67015670) (lrun [(0, .sl), (1, (.int .i64)), (2, .sl), (7, .ptr), (8, .ptr), (10, (.int .i64)), (11, .ptr), (12, (.int .i64)), (81, (.int .i64))] none [] 4 (fun a h => corbellaw7_PlatterKeeps.l2 k n (a.1) (a.2.1) (a.2.2.1) (a.2.2.2.1) (a.2.2.2.2.1) (a.2.2.2.2.2.1) (a.2.2.2.2.2.2.1) (a.2.2.2.2.2.2.2.1) (a.2.2.2.2.2.2.2.2) h)) :=
  loop_pass (ins := [(0, .sl), (1, (.int .i64)), (2, .sl), (7, .ptr), (8, .ptr), (10, (.int .i64)), (11, .ptr), (12, (.int .i64)), (81, (.int .i64))]) (rets := none) (outs := []) (id := 4) (tbl := corbellaw7_PlatterKeeps.T k) (an := corbellaw7_PlatterKeeps.an k) (pb := 134031340) (corbellaw7_PlatterKeeps.TS hX hK25 k) (fun n => (fun a h => corbellaw7_PlatterKeeps.l2 k n (a.1) (a.2.1) (a.2.2.1) (a.2.2.2.1) (a.2.2.2.2.1) (a.2.2.2.2.2.1) (a.2.2.2.2.2.2.1) (a.2.2.2.2.2.2.2.1) (a.2.2.2.2.2.2.2.2) h)) (fun a h => rfl) (fun n a h => by kernel_rfl)
    (by
      have e : need (corbellaw7_PlatterKeeps.an k) corbellaw7_PlatterKeeps.c67015670 134031340 = [] := by kernel_rfl
      rw [e]; intro q hq; cases hq) n
set_option maxRecDepth 100000 in
theorem corbellaw7_PlatterKeeps.l3_pass {C : FuncId → Bool} {X : CallF} (hX : XOk C X) (hK25 : KOk X 25) (k n : Nat) : PassS Try.prog C X 137 (.loop corbellaw7_PlatterKeeps.c16378) (lrun [(7, .ptr), (8, .ptr), (95, (.int .i64))] (some [(6, .bool)]) [] 6 (fun a h => corbellaw7_PlatterKeeps.l3 k n (a.1) (a.2.1) (a.2.2) h)) :=
  loop_pass (ins := [(7, .ptr), (8, .ptr), (95, (.int .i64))]) (rets := (some [(6, .bool)])) (outs := []) (id := 6) (tbl := corbellaw7_PlatterKeeps.T k) (an := corbellaw7_PlatterKeeps.an k) (pb := 32756) (corbellaw7_PlatterKeeps.TS hX hK25 k) (fun n => (fun a h => corbellaw7_PlatterKeeps.l3 k n (a.1) (a.2.1) (a.2.2) h)) (fun a h => rfl) (fun n a h => by kernel_rfl)
    (by
      have e : need (corbellaw7_PlatterKeeps.an k) corbellaw7_PlatterKeeps.c16378 32756 = [] := by kernel_rfl
      rw [e]; intro q hq; cases hq) n
set_option maxRecDepth 100000 in
theorem corbellaw7_PlatterKeeps.l1_pass {C : FuncId → Bool} {X : CallF} (hX : XOk C X) (hK25 : KOk X 25) (k n : Nat) : PassS Try.prog C X 137 (.loop corbellaw7_PlatterKeeps.c4090) (lrun [(0, .sl), (1, (.int .i64)), (2, .sl), (7, .ptr), (8, .ptr), (10, (.int .i64)), (11, .ptr), (12, (.int .i64))] (some [(6, .bool)]) [] 2 (fun a h => corbellaw7_PlatterKeeps.l1 k n (a.1) (a.2.1) (a.2.2.1) (a.2.2.2.1) (a.2.2.2.2.1) (a.2.2.2.2.2.1) (a.2.2.2.2.2.2.1) (a.2.2.2.2.2.2.2) h)) :=
  loop_pass (ins := [(0, .sl), (1, (.int .i64)), (2, .sl), (7, .ptr), (8, .ptr), (10, (.int .i64)), (11, .ptr), (12, (.int .i64))]) (rets := (some [(6, .bool)])) (outs := []) (id := 2) (tbl := corbellaw7_PlatterKeeps.T k) (an := corbellaw7_PlatterKeeps.an k) (pb := 8180) (corbellaw7_PlatterKeeps.TS hX hK25 k) (fun n => (fun a h => corbellaw7_PlatterKeeps.l1 k n (a.1) (a.2.1) (a.2.2.1) (a.2.2.2.1) (a.2.2.2.2.1) (a.2.2.2.2.2.1) (a.2.2.2.2.2.2.1) (a.2.2.2.2.2.2.2) h)) (fun a h => rfl) (fun n a h => by kernel_rfl)
    (by
      have e : need (corbellaw7_PlatterKeeps.an k) corbellaw7_PlatterKeeps.c4090 8180 = [(Code.loop corbellaw7_PlatterKeeps.c67015670, lrun [(0, .sl), (1, (.int .i64)), (2, .sl), (7, .ptr), (8, .ptr), (10, (.int .i64)), (11, .ptr), (12, (.int .i64)), (81, (.int .i64))] none [] 4 (fun a h => corbellaw7_PlatterKeeps.l2 k k (a.1) (a.2.1) (a.2.2.1) (a.2.2.2.1) (a.2.2.2.2.1) (a.2.2.2.2.2.1) (a.2.2.2.2.2.2.1) (a.2.2.2.2.2.2.2.1) (a.2.2.2.2.2.2.2.2) h))] := by kernel_rfl
      rw [e]; intro q hq
      rcases List.mem_cons.1 hq with rfl | hq
      · exact corbellaw7_PlatterKeeps.l2_pass hX hK25 k k
      cases hq) n
set_option maxRecDepth 100000 in
theorem corbellaw7_PlatterKeeps.l0_pass {C : FuncId → Bool} {X : CallF} (hX : XOk C X) (hK25 : KOk X 25) (k n : Nat) : PassS Try.prog C X 137 (.loop corbellaw7_PlatterKeeps.c250) (lrun [(0, .sl), (1, (.int .i64)), (2, .sl), (7, .ptr), (8, .ptr), (27, (.int .i64))] none [] 0 (fun a h => corbellaw7_PlatterKeeps.l0 k n (a.1) (a.2.1) (a.2.2.1) (a.2.2.2.1) (a.2.2.2.2.1) (a.2.2.2.2.2) h)) :=
  loop_pass (ins := [(0, .sl), (1, (.int .i64)), (2, .sl), (7, .ptr), (8, .ptr), (27, (.int .i64))]) (rets := none) (outs := []) (id := 0) (tbl := corbellaw7_PlatterKeeps.T k) (an := corbellaw7_PlatterKeeps.an k) (pb := 500) (corbellaw7_PlatterKeeps.TS hX hK25 k) (fun n => (fun a h => corbellaw7_PlatterKeeps.l0 k n (a.1) (a.2.1) (a.2.2.1) (a.2.2.2.1) (a.2.2.2.2.1) (a.2.2.2.2.2) h)) (fun a h => rfl) (fun n a h => by kernel_rfl)
    (by
      have e : need (corbellaw7_PlatterKeeps.an k) corbellaw7_PlatterKeeps.c250 500 = [] := by kernel_rfl
      rw [e]; intro q hq; cases hq) n
set_option maxRecDepth 100000 in
theorem corbellaw7_PlatterKeeps.eq (k : Nat) (a : RT [.sl, (.int .i64), .sl]) (h : H) : (fun a h => corbellaw7_PlatterKeeps.f k (a.1) (a.2.1) (a.2.2) h) a h = kfun Try.prog (corbellaw7_PlatterKeeps.T k) (corbellaw7_PlatterKeeps.an k) (RT [.bool] × H) Try.f8 (encL [.sl, (.int .i64), .sl] a) h (fun vs h' => (decL [.bool] vs).bind fun x => some (x, h')) := by kernel_rfl
set_option maxRecDepth 100000 in
theorem corbellaw7_PlatterKeeps.told {C : FuncId → Bool} {X : CallF} (hX : XOk C X) (hK25 : KOk X 25) (k : Nat) : Den.Told Try.prog C X 8 [.sl, (.int .i64), .sl] [.bool] (fun a h => corbellaw7_PlatterKeeps.f k (a.1) (a.2.1) (a.2.2) h) :=
  told_of fun a h q e => fn_of (c := corbellaw7_PlatterKeeps.body) (corbellaw7_PlatterKeeps.TS hX hK25 k) Try.func8 (by kernel_rfl) (hX.no 8 _ h (by decide))
    (by
      have e : need (corbellaw7_PlatterKeeps.an k) corbellaw7_PlatterKeeps.body 1 = [(Code.loop corbellaw7_PlatterKeeps.c250, lrun [(0, .sl), (1, (.int .i64)), (2, .sl), (7, .ptr), (8, .ptr), (27, (.int .i64))] none [] 0 (fun a h => corbellaw7_PlatterKeeps.l0 k k (a.1) (a.2.1) (a.2.2.1) (a.2.2.2.1) (a.2.2.2.2.1) (a.2.2.2.2.2) h)), (Code.loop corbellaw7_PlatterKeeps.c4090, lrun [(0, .sl), (1, (.int .i64)), (2, .sl), (7, .ptr), (8, .ptr), (10, (.int .i64)), (11, .ptr), (12, (.int .i64))] (some [(6, .bool)]) [] 2 (fun a h => corbellaw7_PlatterKeeps.l1 k k (a.1) (a.2.1) (a.2.2.1) (a.2.2.2.1) (a.2.2.2.2.1) (a.2.2.2.2.2.1) (a.2.2.2.2.2.2.1) (a.2.2.2.2.2.2.2) h)), (Code.loop corbellaw7_PlatterKeeps.c16378, lrun [(7, .ptr), (8, .ptr), (95, (.int .i64))] (some [(6, .bool)]) [] 6 (fun a h => corbellaw7_PlatterKeeps.l3 k k (a.1) (a.2.1) (a.2.2) h))] := by kernel_rfl
      rw [e]; intro q hq
      rcases List.mem_cons.1 hq with rfl | hq
      · exact corbellaw7_PlatterKeeps.l0_pass hX hK25 k k
      rcases List.mem_cons.1 hq with rfl | hq
      · exact corbellaw7_PlatterKeeps.l1_pass hX hK25 k k
      rcases List.mem_cons.1 hq with rfl | hq
      · exact corbellaw7_PlatterKeeps.l3_pass hX hK25 k k
      cases hq)
    ((corbellaw7_PlatterKeeps.eq k a h).symm.trans e)
/-! ### corbel/corbellaw7.PlatterOrder -/
noncomputable def corbellaw7_PlatterOrder.l1 (k : Nat) (n : Nat) : (Option Addr) → Sl → (Option Addr) → Int → H → Option (((Bool) ⊕ (Unit)) × H) :=
  Nat.rec (motive := fun _ => (Option Addr) → Sl → (Option Addr) → Int → H → Option (((Bool) ⊕ (Unit)) × H)) (fun _ _ _ _ _ => none) (fun _ ih x34 x35 x36 x37 h38 => cond (decide (x37 < (5 : Int)))
      ((platter_Platter_Read.f k x34 x37 h38).bind fun q39 =>
    (cond (!q39.1.2) (some (true, q39.2, [], []))
      ((asT (txt q39.2 (Value.slice q39.1.1.a q39.1.1.n q39.1.1.c))).bind fun s40 =>
    (asP (ixs 1 x36 5 x37)).bind fun p41 =>
    (asI .i64 (ldc q39.2 p41)).bind fun n42 =>
    (corbellaw7_all.f k n42 q39.2).bind fun q43 =>
    (asT (txt q43.2 (Value.slice q43.1.a q43.1.n q43.1.c))).bind fun s44 =>
    some (!(s40.toList == s44.toList), q43.2, ([(3, none)] ++ [(4, (blkOf (some (Value.slice q39.1.1.a q39.1.1.n q39.1.1.c))))]), [(8, q39.2, q43.2)])) : Option (Bool × H × LEs × EFs)).bind fun g45 =>
    cond (dynL [(3, 8), (4, 8)] g45.2.2.1 g45.2.2.2) (cond g45.1
      (some (Sum.inl false, g45.2.1))
      (ih x34 x35 x36 (wrapA .i64 (x37 + (1 : Int))) g45.2.1)) none)
      (some (Sum.inr (), h38))) n
theorem corbellaw7_PlatterOrder.l1_zero (k : Nat) (x34 : Option Addr) (x35 : Sl) (x36 : Option Addr) (x37 : Int) (h38 : H) : corbellaw7_PlatterOrder.l1 k 0 x34 x35 x36 x37 h38 = none := rfl
theorem corbellaw7_PlatterOrder.l1_succ (k n : Nat) (x34 : Option Addr) (x35 : Sl) (x36 : Option Addr) (x37 : Int) (h38 : H) : corbellaw7_PlatterOrder.l1 k (n + 1) x34 x35 x36 x37 h38 = (cond (decide (x37 < (5 : Int)))
      ((platter_Platter_Read.f k x34 x37 h38).bind fun q39 =>
    (cond (!q39.1.2) (some (true, q39.2, [], []))
      ((asT (txt q39.2 (Value.slice q39.1.1.a q39.1.1.n q39.1.1.c))).bind fun s40 =>
    (asP (ixs 1 x36 5 x37)).bind fun p41 =>
    (asI .i64 (ldc q39.2 p41)).bind fun n42 =>
    (corbellaw7_all.f k n42 q39.2).bind fun q43 =>
    (asT (txt q43.2 (Value.slice q43.1.a q43.1.n q43.1.c))).bind fun s44 =>
    some (!(s40.toList == s44.toList), q43.2, ([(3, none)] ++ [(4, (blkOf (some (Value.slice q39.1.1.a q39.1.1.n q39.1.1.c))))]), [(8, q39.2, q43.2)])) : Option (Bool × H × LEs × EFs)).bind fun g45 =>
    cond (dynL [(3, 8), (4, 8)] g45.2.2.1 g45.2.2.2) (cond g45.1
      (some (Sum.inl false, g45.2.1))
      (corbellaw7_PlatterOrder.l1 k n x34 x35 x36 (wrapA .i64 (x37 + (1 : Int))) g45.2.1)) none)
      (some (Sum.inr (), h38))) := rfl
noncomputable def corbellaw7_PlatterOrder.l0 (k : Nat) (n : Nat) : Sl → Sl → (Option Addr) → (Option Addr) → Sl → Sl → Int → H → Option (((Bool) ⊕ (Sl × Sl)) × H) :=
  Nat.rec (motive := fun _ => Sl → Sl → (Option Addr) → (Option Addr) → Sl → Sl → Int → H → Option (((Bool) ⊕ (Sl × Sl)) × H)) (fun _ _ _ _ _ _ _ _ => none) (fun _ ih x4 x5 x6 x7 x8 x9 x10 h11 => (cond (decide (x10 < (Int.ofNat x4.n))) (some (decide (x10 < (30 : Int)), h11))
      (some (false, h11))).bind fun g12 =>
    cond g12.1
      ((asP (ixs 1 x4.a x4.n x10)).bind fun p13 =>
    (asI .i64 (ldc g12.2 p13)).bind fun n14 =>
    (corbelhand_Pick.f k n14 (5 : Int) g12.2).bind fun q15 =>
    (corbellaw7_all.f k (wrapA .i64 (x10 + (1 : Int))) q15.2).bind fun q16 =>
    (platter_Platter_Write.f k x6 q15.1 q16.1 q16.2).bind fun q17 =>
    cond (!q17.1)
      (some (Sum.inl false, q17.2))
      ((asS2 (apv 3 1 8 (Value.slice x8.a x8.n x8.c) (Value.slice (some ⟨q17.2.next, 0, none⟩) 1 1) (newR q17.2 3 1 [(Value.int .i64 q15.1)]))).bind fun q18 =>
    (cond (decide (x10 < (Int.ofNat x5.n))) ((asP (ixs 1 x5.a x5.n x10)).bind fun p19 =>
    (asB (ldc q18.2 p19)).bind fun b20 =>
    some (b20, q18.2))
      (some (false, q18.2))).bind fun g21 =>
    (cond g21.1
      ((asS2 (apv 3 1 8 (Value.slice x9.a x9.n x9.c) (Value.slice (some ⟨g21.2.next, 0, none⟩) 1 1) (newR g21.2 3 1 [(Value.int .i64 x10)]))).bind fun q22 =>
    (asP (ixs 1 x7 5 q15.1)).bind fun p23 =>
    (stv 1 q22.2 p23 [(Value.int .i64 (wrapA .i64 (x10 + (1 : Int))))]).bind fun q24 =>
    some (q22.1, q24.2))
      (some (x9, g21.2)) : Option ((Sl) × H)).bind fun j25 =>
    ih x4 x5 x6 x7 q18.1 j25.1 (wrapA .i64 (x10 + (1 : Int))) j25.2))
      (some (Sum.inr (x8, x9), g12.2))) n
theorem corbellaw7_PlatterOrder.l0_zero (k : Nat) (x4 : Sl) (x5 : Sl) (x6 : Option Addr) (x7 : Option Addr) (x8 : Sl) (x9 : Sl) (x10 : Int) (h11 : H) : corbellaw7_PlatterOrder.l0 k 0 x4 x5 x6 x7 x8 x9 x10 h11 = none := rfl
theorem corbellaw7_PlatterOrder.l0_succ (k n : Nat) (x4 : Sl) (x5 : Sl) (x6 : Option Addr) (x7 : Option Addr) (x8 : Sl) (x9 : Sl) (x10 : Int) (h11 : H) : corbellaw7_PlatterOrder.l0 k (n + 1) x4 x5 x6 x7 x8 x9 x10 h11 = ((cond (decide (x10 < (Int.ofNat x4.n))) (some (decide (x10 < (30 : Int)), h11))
      (some (false, h11))).bind fun g12 =>
    cond g12.1
      ((asP (ixs 1 x4.a x4.n x10)).bind fun p13 =>
    (asI .i64 (ldc g12.2 p13)).bind fun n14 =>
    (corbelhand_Pick.f k n14 (5 : Int) g12.2).bind fun q15 =>
    (corbellaw7_all.f k (wrapA .i64 (x10 + (1 : Int))) q15.2).bind fun q16 =>
    (platter_Platter_Write.f k x6 q15.1 q16.1 q16.2).bind fun q17 =>
    cond (!q17.1)
      (some (Sum.inl false, q17.2))
      ((asS2 (apv 3 1 8 (Value.slice x8.a x8.n x8.c) (Value.slice (some ⟨q17.2.next, 0, none⟩) 1 1) (newR q17.2 3 1 [(Value.int .i64 q15.1)]))).bind fun q18 =>
    (cond (decide (x10 < (Int.ofNat x5.n))) ((asP (ixs 1 x5.a x5.n x10)).bind fun p19 =>
    (asB (ldc q18.2 p19)).bind fun b20 =>
    some (b20, q18.2))
      (some (false, q18.2))).bind fun g21 =>
    (cond g21.1
      ((asS2 (apv 3 1 8 (Value.slice x9.a x9.n x9.c) (Value.slice (some ⟨g21.2.next, 0, none⟩) 1 1) (newR g21.2 3 1 [(Value.int .i64 x10)]))).bind fun q22 =>
    (asP (ixs 1 x7 5 q15.1)).bind fun p23 =>
    (stv 1 q22.2 p23 [(Value.int .i64 (wrapA .i64 (x10 + (1 : Int))))]).bind fun q24 =>
    some (q22.1, q24.2))
      (some (x9, g21.2)) : Option ((Sl) × H)).bind fun j25 =>
    corbellaw7_PlatterOrder.l0 k n x4 x5 x6 x7 q18.1 j25.1 (wrapA .i64 (x10 + (1 : Int))) j25.2))
      (some (Sum.inr (x8, x9), g12.2))) := rfl
noncomputable def corbellaw7_PlatterOrder.f (k : Nat) (a0 : Sl) (a1 : Sl) (h : H) : Option ((Bool) × H) :=
  (platter_New.f k (5 : Int) h).bind fun q1 =>
    (cond (!true) (some (true, q1.2))
      ((asB (binO1 Try.prog .eql 42 (Value.pointer q1.1) (Value.pointer none))).bind fun b2 =>
    some (b2, q1.2))).bind fun g3 =>
    cond g3.1
      (some (false, g3.2))
      ((corbellaw7_PlatterOrder.l0 k k a0 a1 q1.1 (some ⟨g3.2.next, 0, none⟩) (⟨none, 0, 0⟩ : Sl) (⟨none, 0, 0⟩ : Sl) (0 : Int) (newR g3.2 56 5 [(Value.int .i64 (0 : Int)), (Value.int .i64 (0 : Int)), (Value.int .i64 (0 : Int)), (Value.int .i64 (0 : Int)), (Value.int .i64 (0 : Int))])).bind fun w26 =>
    match w26.1 with
    | .inl r27 => some (r27, w26.2)
    | .inr o28 => (platter_Platter_Pending.f k q1.1 w26.2).bind fun q29 =>
    (corbelref7_SameInts.f k q29.1 o28.1 q29.2).bind fun q30 =>
    (cond (!q30.1) (some (true, q30.2))
      ((platter_Platter_Writes.f k q1.1 q30.2).bind fun q31 =>
    some (q31.1 != (Int.ofNat o28.1.n), q31.2))).bind fun g32 =>
    cond g32.1
      (some (false, g32.2))
      ((platter_Platter_Crash.f k q1.1 o28.2 g32.2).bind fun q33 =>
    (corbellaw7_PlatterOrder.l1 k k q1.1 o28.1 (some ⟨g3.2.next, 0, none⟩) (0 : Int) q33.2).bind fun w46 =>
    match w46.1 with
    | .inl r47 => some (r47, w46.2)
    | .inr o48 => (platter_Platter_Writes.f k q1.1 w46.2).bind fun q49 =>
    some (q49.1 == (Int.ofNat o28.1.n), q49.2)))
noncomputable def corbellaw7_PlatterOrder.T (k : Nat) : Tbl := tblOf [⟨24, anyArgs, wr [(.int .i64)] [.ptr] (fun a h => platter_New.f k a h)⟩,
  ⟨25, anyArgs, knownW⟩,
  ⟨17, anyArgs, wr [(.int .i64), (.int .i64)] [(.int .i64)] (fun a h => corbelhand_Pick.f k (a.1) (a.2) h)⟩,
  ⟨27, anyArgs, wr [(.int .i64)] [.sl] (fun a h => corbellaw7_all.f k a h)⟩,
  ⟨26, anyArgs, wr [.ptr, (.int .i64), .sl] [.bool] (fun a h => platter_Platter_Write.f k (a.1) (a.2.1) (a.2.2) h)⟩,
  ⟨31, anyArgs, wr [.ptr] [.sl] (fun a h => platter_Platter_Pending.f k a h)⟩,
  ⟨32, anyArgs, wr [.sl, .sl] [.bool] (fun a h => corbelref7_SameInts.f k (a.1) (a.2) h)⟩,
  ⟨33, anyArgs, wr [.ptr] [(.int .i64)] (fun a h => platter_Platter_Writes.f k a h)⟩,
  ⟨29, anyArgs, wr [.ptr, .sl] [] (fun a h => platter_Platter_Crash.f k (a.1) (a.2) h)⟩,
  ⟨30, anyArgs, wr [.ptr, (.int .i64)] [.sl, .bool] (fun a h => platter_Platter_Read.f k (a.1) (a.2) h)⟩]
noncomputable def corbellaw7_PlatterOrder.an (k : Nat) (p : Nat) : Option Ann := cond (Nat.beq p 4090) (some (.pass [5, 6] (lrun [(5, .ptr), (6, .sl), (8, .ptr), (80, (.int .i64))] (some [(4, .bool)]) [] 2 (fun a h => corbellaw7_PlatterOrder.l1 k k (a.1) (a.2.1) (a.2.2.1) (a.2.2.2) h))))
  (cond (Nat.beq p 506) (some (.pass [5, 8] (lrun [(0, .sl), (1, .sl), (5, .ptr), (8, .ptr), (6, .sl), (7, .sl), (9, (.int .i64))] (some [(4, .bool)]) [(6, .sl), (7, .sl)] 0 (fun a h => corbellaw7_PlatterOrder.l0 k k (a.1) (a.2.1) (a.2.2.1) (a.2.2.2.1) (a.2.2.2.2.1) (a.2.2.2.2.2.1) (a.2.2.2.2.2.2) h))))
  (cond (Nat.beq p 129615) (some (.join [0, 1, 5, 6, 8, 9] none [(7, .sl)]))
  (none)))
noncomputable def corbellaw7_PlatterOrder.body : Code := (Try.f9.body).getD .skip
noncomputable def corbellaw7_PlatterOrder.c506 : Code := cat corbellaw7_PlatterOrder.body [1, 1, 1, 1, 1, 0, 1, 0, 0]
noncomputable def corbellaw7_PlatterOrder.c4090 : Code := cat corbellaw7_PlatterOrder.body [1, 1, 1, 1, 1, 1, 1, 1, 0, 1, 0, 0]
set_option maxRecDepth 100000 in
theorem corbellaw7_PlatterOrder.TS {C : FuncId → Bool} {X : CallF} (hX : XOk C X) (hK25 : KOk X 25) (k : Nat) : TblS Try.prog C X (corbellaw7_PlatterOrder.T k) := by
  refine tblOf_sound ?_
  intro e he
  rcases List.mem_cons.1 he with rfl | he
  · exact wr_told (platter_New.told hX k)
  rcases List.mem_cons.1 he with rfl | he
  · exact knownW_told hK25
  rcases List.mem_cons.1 he with rfl | he
  · exact wr_told (corbelhand_Pick.told hX k)
  rcases List.mem_cons.1 he with rfl | he
  · exact wr_told (corbellaw7_all.told hX k)
  rcases List.mem_cons.1 he with rfl | he
  · exact wr_told (platter_Platter_Write.told hX k)
  rcases List.mem_cons.1 he with rfl | he
  · exact wr_told (platter_Platter_Pending.told hX k)
  rcases List.mem_cons.1 he with rfl | he
  · exact wr_told (corbelref7_SameInts.told hX k)
  rcases List.mem_cons.1 he with rfl | he
  · exact wr_told (platter_Platter_Writes.told hX k)
  rcases List.mem_cons.1 he with rfl | he
  · exact wr_told (platter_Platter_Crash.told hX k)
  rcases List.mem_cons.1 he with rfl | he
  · exact wr_told (platter_Platter_Read.told hX k)
  exact absurd he List.not_mem_nil
set_option maxRecDepth 100000 in
theorem corbellaw7_PlatterOrder.l1_pass {C : FuncId → Bool} {X : CallF} (hX : XOk C X) (hK25 : KOk X 25) (k n : Nat) : PassS Try.prog C X 107 (.loop corbellaw7_PlatterOrder.c4090) (lrun [(5, .ptr), (6, .sl), (8, .ptr), (80, (.int .i64))] (some [(4, .bool)]) [] 2 (fun a h => corbellaw7_PlatterOrder.l1 k n (a.1) (a.2.1) (a.2.2.1) (a.2.2.2) h)) :=
  loop_pass (ins := [(5, .ptr), (6, .sl), (8, .ptr), (80, (.int .i64))]) (rets := (some [(4, .bool)])) (outs := []) (id := 2) (tbl := corbellaw7_PlatterOrder.T k) (an := corbellaw7_PlatterOrder.an k) (pb := 8180) (corbellaw7_PlatterOrder.TS hX hK25 k) (fun n => (fun a h => corbellaw7_PlatterOrder.l1 k n (a.1) (a.2.1) (a.2.2.1) (a.2.2.2) h)) (fun a h => rfl) (fun n a h => by kernel_rfl)
    (by
      have e : need (corbellaw7_PlatterOrder.an k) corbellaw7_PlatterOrder.c4090 8180 = [] := by kernel_rfl
      rw [e]; intro q hq; cases hq) n
set_option maxRecDepth 100000 in
theorem corbellaw7_PlatterOrder.l0_pass {C : FuncId → Bool} {X : CallF} (hX : XOk C X) (hK25 : KOk X 25) (k n : Nat) : PassS Try.prog C X 107 (.loop corbellaw7_PlatterOrder.c506) (lrun [(0, .sl), (1, .sl), (5, .ptr), (8, .ptr), (6, .sl), (7, .sl), (9, (.int .i64))] (some [(4, .bool)]) [(6, .sl), (7, .sl)] 0 (fun a h => corbellaw7_PlatterOrder.l0 k n (a.1) (a.2.1) (a.2.2.1) (a.2.2.2.1) (a.2.2.2.2.1) (a.2.2.2.2.2.1) (a.2.2.2.2.2.2) h)) :=
  loop_pass (ins := [(0, .sl), (1, .sl), (5, .ptr), (8, .ptr), (6, .sl), (7, .sl), (9, (.int .i64))]) (rets := (some [(4, .bool)])) (outs := [(6, .sl), (7, .sl)]) (id := 0) (tbl := corbellaw7_PlatterOrder.T k) (an := corbellaw7_PlatterOrder.an k) (pb := 1012) (corbellaw7_PlatterOrder.TS hX hK25 k) (fun n => (fun a h => corbellaw7_PlatterOrder.l0 k n (a.1) (a.2.1) (a.2.2.1) (a.2.2.2.1) (a.2.2.2.2.1) (a.2.2.2.2.2.1) (a.2.2.2.2.2.2) h)) (fun a h => rfl) (fun n a h => by kernel_rfl)
    (by
      have e : need (corbellaw7_PlatterOrder.an k) corbellaw7_PlatterOrder.c506 1012 = [] := by kernel_rfl
      rw [e]; intro q hq; cases hq) n
set_option maxRecDepth 100000 in
theorem corbellaw7_PlatterOrder.eq (k : Nat) (a : RT [.sl, .sl]) (h : H) : (fun a h => corbellaw7_PlatterOrder.f k (a.1) (a.2) h) a h = kfun Try.prog (corbellaw7_PlatterOrder.T k) (corbellaw7_PlatterOrder.an k) (RT [.bool] × H) Try.f9 (encL [.sl, .sl] a) h (fun vs h' => (decL [.bool] vs).bind fun x => some (x, h')) := by kernel_rfl
set_option maxRecDepth 100000 in
theorem corbellaw7_PlatterOrder.told {C : FuncId → Bool} {X : CallF} (hX : XOk C X) (hK25 : KOk X 25) (k : Nat) : Den.Told Try.prog C X 9 [.sl, .sl] [.bool] (fun a h => corbellaw7_PlatterOrder.f k (a.1) (a.2) h) :=
  told_of fun a h q e => fn_of (c := corbellaw7_PlatterOrder.body) (corbellaw7_PlatterOrder.TS hX hK25 k) Try.func9 (by kernel_rfl) (hX.no 9 _ h (by decide))
    (by
      have e : need (corbellaw7_PlatterOrder.an k) corbellaw7_PlatterOrder.body 1 = [(Code.loop corbellaw7_PlatterOrder.c506, lrun [(0, .sl), (1, .sl), (5, .ptr), (8, .ptr), (6, .sl), (7, .sl), (9, (.int .i64))] (some [(4, .bool)]) [(6, .sl), (7, .sl)] 0 (fun a h => corbellaw7_PlatterOrder.l0 k k (a.1) (a.2.1) (a.2.2.1) (a.2.2.2.1) (a.2.2.2.2.1) (a.2.2.2.2.2.1) (a.2.2.2.2.2.2) h)), (Code.loop corbellaw7_PlatterOrder.c4090, lrun [(5, .ptr), (6, .sl), (8, .ptr), (80, (.int .i64))] (some [(4, .bool)]) [] 2 (fun a h => corbellaw7_PlatterOrder.l1 k k (a.1) (a.2.1) (a.2.2.1) (a.2.2.2) h))] := by kernel_rfl
      rw [e]; intro q hq
      rcases List.mem_cons.1 hq with rfl | hq
      · exact corbellaw7_PlatterOrder.l0_pass hX hK25 k k
      rcases List.mem_cons.1 hq with rfl | hq
      · exact corbellaw7_PlatterOrder.l1_pass hX hK25 k k
      cases hq)
    ((corbellaw7_PlatterOrder.eq k a h).symm.trans e)
/-! ### corbel/corbellaw7.PlatterActs -/
noncomputable def corbellaw7_PlatterActs.l1 (k : Nat) (n : Nat) : Int → Sl → (Option Addr) → (Option Addr) → Int → (Option Addr) → Sl → Int → H → Option ((Sl) × H) :=
  Nat.rec (motive := fun _ => Int → Sl → (Option Addr) → (Option Addr) → Int → (Option Addr) → Sl → Int → H → Option ((Sl) × H)) (fun _ _ _ _ _ _ _ _ _ => none) (fun _ ih x24 x25 x26 x27 x28 x29 x30 x31 h32 => (asP (fadd 3 x29)).bind fun p51 =>
    (asS (ldc h32 p51)).bind fun s52 =>
    (cond (decide (x31 < (Int.ofNat s52.n))) (some (decide (x31 < (8 : Int)), h32))
      (some (false, h32))).bind fun g53 =>
    cond g53.1
      ((asP (fadd 3 x29)).bind fun p54 =>
    (asS (ldc g53.2 p54)).bind fun s55 =>
    (asP (ixs 1 s55.a s55.n x31)).bind fun p56 =>
    (asI .i64 (ldc g53.2 p56)).bind fun n57 =>
    (corbelhand_Pick.f k n57 (12 : Int) g53.2).bind fun q58 =>
    (asS2 (apv 3 1 8 (Value.slice x30.a x30.n x30.c) (Value.slice (some ⟨q58.2.next, 0, none⟩) 1 1) (newR q58.2 3 1 [(Value.int .i64 (wrapA .i64 (q58.1 - (1 : Int))))]))).bind fun q59 =>
    ih x24 x25 x26 x27 x28 x29 q59.1 (wrapA .i64 (x31 + (1 : Int))) q59.2)
      (some (x30, g53.2))) n
theorem corbellaw7_PlatterActs.l1_zero (k : Nat) (x24 : Int) (x25 : Sl) (x26 : Option Addr) (x27 : Option Addr) (x28 : Int) (x29 : Option Addr) (x30 : Sl) (x31 : Int) (h32 : H) : corbellaw7_PlatterActs.l1 k 0 x24 x25 x26 x27 x28 x29 x30 x31 h32 = none := rfl
theorem corbellaw7_PlatterActs.l1_succ (k n : Nat) (x24 : Int) (x25 : Sl) (x26 : Option Addr) (x27 : Option Addr) (x28 : Int) (x29 : Option Addr) (x30 : Sl) (x31 : Int) (h32 : H) : corbellaw7_PlatterActs.l1 k (n + 1) x24 x25 x26 x27 x28 x29 x30 x31 h32 = ((asP (fadd 3 x29)).bind fun p51 =>
    (asS (ldc h32 p51)).bind fun s52 =>
    (cond (decide (x31 < (Int.ofNat s52.n))) (some (decide (x31 < (8 : Int)), h32))
      (some (false, h32))).bind fun g53 =>
    cond g53.1
      ((asP (fadd 3 x29)).bind fun p54 =>
    (asS (ldc g53.2 p54)).bind fun s55 =>
    (asP (ixs 1 s55.a s55.n x31)).bind fun p56 =>
    (asI .i64 (ldc g53.2 p56)).bind fun n57 =>
    (corbelhand_Pick.f k n57 (12 : Int) g53.2).bind fun q58 =>
    (asS2 (apv 3 1 8 (Value.slice x30.a x30.n x30.c) (Value.slice (some ⟨q58.2.next, 0, none⟩) 1 1) (newR q58.2 3 1 [(Value.int .i64 (wrapA .i64 (q58.1 - (1 : Int))))]))).bind fun q59 =>
    corbellaw7_PlatterActs.l1 k n x24 x25 x26 x27 x28 x29 q59.1 (wrapA .i64 (x31 + (1 : Int))) q59.2)
      (some (x30, g53.2))) := rfl
noncomputable def corbellaw7_PlatterActs.l3 (k : Nat) (n : Nat) : Int → Sl → (Option Addr) → (Option Addr) → Int → Int → H → Option (((Bool) ⊕ (Unit)) × H) :=
  Nat.rec (motive := fun _ => Int → Sl → (Option Addr) → (Option Addr) → Int → Int → H → Option (((Bool) ⊕ (Unit)) × H)) (fun _ _ _ _ _ _ _ => none) (fun _ ih x117 x118 x119 x120 x121 x122 h123 => cond (decide (x122 < x117))
      ((platter_Platter_Read.f k x119 x122 h123).bind fun q172 =>
    (cond (!q172.1.2) (some (true, q172.2, [], []))
      ((asT (txt q172.2 (Value.slice q172.1.1.a q172.1.1.n q172.1.1.c))).bind fun s173 =>
    (corbelref7_Platter_Read.f k x120 x122 q172.2).bind fun q174 =>
    some (!(s173.toList == q174.1.toList), q174.2, ([(3, none)] ++ [(4, (blkOf (some (Value.slice q172.1.1.a q172.1.1.n q172.1.1.c))))]), [(7, q172.2, q174.2)])) : Option (Bool × H × LEs × EFs)).bind fun g175 =>
    cond (dynL [(3, 7), (4, 7)] g175.2.2.1 g175.2.2.2) (cond g175.1
      (some (Sum.inl false, g175.2.1))
      ((asP (ixs 1 q172.1.1.a q172.1.1.n (0 : Int))).bind fun p176 =>
    (asI .u8 (ldc g175.2.1 p176)).bind fun n177 =>
    (asP (ixs 1 q172.1.1.a q172.1.1.n (0 : Int))).bind fun p178 =>
    (stv 1 g175.2.1 p178 [(Value.int .u8 (wrapA .u8 (n177 + (1 : Int))))]).bind fun q179 =>
    ih x117 x118 x119 x120 x121 (wrapA .i64 (x122 + (1 : Int))) q179.2)) none)
      (some (Sum.inr (), h123))) n
theorem corbellaw7_PlatterActs.l3_zero (k : Nat) (x117 : Int) (x118 : Sl) (x119 : Option Addr) (x120 : Option Addr) (x121 : Int) (x122 : Int) (h123 : H) : corbellaw7_PlatterActs.l3 k 0 x117 x118 x119 x120 x121 x122 h123 = none := rfl
theorem corbellaw7_PlatterActs.l3_succ (k n : Nat) (x117 : Int) (x118 : Sl) (x119 : Option Addr) (x120 : Option Addr) (x121 : Int) (x122 : Int) (h123 : H) : corbellaw7_PlatterActs.l3 k (n + 1) x117 x118 x119 x120 x121 x122 h123 = (cond (decide (x122 < x117))
      ((platter_Platter_Read.f k x119 x122 h123).bind fun q172 =>
    (cond (!q172.1.2) (some (true, q172.2, [], []))
      ((asT (txt q172.2 (Value.slice q172.1.1.a q172.1.1.n q172.1.1.c))).bind fun s173 =>
    (corbelref7_Platter_Read.f k x120 x122 q172.2).bind fun q174 =>
    some (!(s173.toList == q174.1.toList), q174.2, ([(3, none)] ++ [(4, (blkOf (some (Value.slice q172.1.1.a q172.1.1.n q172.1.1.c))))]), [(7, q172.2, q174.2)])) : Option (Bool × H × LEs × EFs)).bind fun g175 =>
    cond (dynL [(3, 7), (4, 7)] g175.2.2.1 g175.2.2.2) (cond g175.1
      (some (Sum.inl false, g175.2.1))
      ((asP (ixs 1 q172.1.1.a q172.1.1.n (0 : Int))).bind fun p176 =>
    (asI .u8 (ldc g175.2.1 p176)).bind fun n177 =>
    (asP (ixs 1 q172.1.1.a q172.1.1.n (0 : Int))).bind fun p178 =>
    (stv 1 g175.2.1 p178 [(Value.int .u8 (wrapA .u8 (n177 + (1 : Int))))]).bind fun q179 =>
    corbellaw7_PlatterActs.l3 k n x117 x118 x119 x120 x121 (wrapA .i64 (x122 + (1 : Int))) q179.2)) none)
      (some (Sum.inr (), h123))) := rfl
noncomputable def corbellaw7_PlatterActs.l2 (k : Nat) (n : Nat) : Int → Sl → (Option Addr) → (Option Addr) → Int → Int → Sl → Int → H → Option ((Sl) × H) :=
  Nat.rec (motive := fun _ => Int → Sl → (Option Addr) → (Option Addr) → Int → Int → Sl → Int → H → Option ((Sl) × H)) (fun _ _ _ _ _ _ _ _ _ => none) (fun _ ih x93 x94 x95 x96 x97 x98 x99 x100 h101 => cond (decide (x100 < x98))
      ((asP (nilA (Value.pointer x96))).bind fun p102 =>
    (asP (fadd 1 p102)).bind fun p103 =>
    (asS (ldc h101 p103)).bind fun s104 =>
    (asP (ixs 2 s104.a s104.n x100)).bind fun p105 =>
    (asP (fadd 0 p105)).bind fun p106 =>
    (asI .i64 (ldc h101 p106)).bind fun n107 =>
    (asS2 (apv 3 1 8 (Value.slice x99.a x99.n x99.c) (Value.slice (some ⟨h101.next, 0, none⟩) 1 1) (newR h101 3 1 [(Value.int .i64 n107)]))).bind fun q108 =>
    ih x93 x94 x95 x96 x97 x98 q108.1 (wrapA .i64 (x100 + (1 : Int))) q108.2)
      (some (x99, h101))) n
theorem corbellaw7_PlatterActs.l2_zero (k : Nat) (x93 : Int) (x94 : Sl) (x95 : Option Addr) (x96 : Option Addr) (x97 : Int) (x98 : Int) (x99 : Sl) (x100 : Int) (h101 : H) : corbellaw7_PlatterActs.l2 k 0 x93 x94 x95 x96 x97 x98 x99 x100 h101 = none := rfl
theorem corbellaw7_PlatterActs.l2_succ (k n : Nat) (x93 : Int) (x94 : Sl) (x95 : Option Addr) (x96 : Option Addr) (x97 : Int) (x98 : Int) (x99 : Sl) (x100 : Int) (h101 : H) : corbellaw7_PlatterActs.l2 k (n + 1) x93 x94 x95 x96 x97 x98 x99 x100 h101 = (cond (decide (x100 < x98))
      ((asP (nilA (Value.pointer x96))).bind fun p102 =>
    (asP (fadd 1 p102)).bind fun p103 =>
    (asS (ldc h101 p103)).bind fun s104 =>
    (asP (ixs 2 s104.a s104.n x100)).bind fun p105 =>
    (asP (fadd 0 p105)).bind fun p106 =>
    (asI .i64 (ldc h101 p106)).bind fun n107 =>
    (asS2 (apv 3 1 8 (Value.slice x99.a x99.n x99.c) (Value.slice (some ⟨h101.next, 0, none⟩) 1 1) (newR h101 3 1 [(Value.int .i64 n107)]))).bind fun q108 =>
    corbellaw7_PlatterActs.l2 k n x93 x94 x95 x96 x97 x98 q108.1 (wrapA .i64 (x100 + (1 : Int))) q108.2)
      (some (x99, h101))) := rfl
noncomputable def corbellaw7_PlatterActs.l0 (k : Nat) (n : Nat) : Int → Sl → (Option Addr) → (Option Addr) → Int → H → Option (((Bool) ⊕ (Unit)) × H) :=
  Nat.rec (motive := fun _ => Int → Sl → (Option Addr) → (Option Addr) → Int → H → Option (((Bool) ⊕ (Unit)) × H)) (fun _ _ _ _ _ _ => none) (fun _ ih x6 x7 x8 x9 x10 h11 => (cond (decide (x10 < (Int.ofNat x7.n))) (some (decide (x10 < (60 : Int)), h11))
      (some (false, h11))).bind fun g12 =>
    cond g12.1
      ((asP (ixs 4 x7.a x7.n x10)).bind fun p13 =>
    (asSt [(.int .i64), (.int .i64), (.int .i64), .sl] (lda 4 g12.2 p13)).bind fun s14 =>
    (stv 4 (newR g12.2 48 4 [(Value.int .i64 (0 : Int)), (Value.int .i64 (0 : Int)), (Value.int .i64 (0 : Int)), (Value.slice none 0 0)]) (some ⟨g12.2.next, 0, none⟩) [(Value.int .i64 s14.1), (Value.int .i64 s14.2.1), (Value.int .i64 s14.2.2.1), (Value.slice s14.2.2.2.a s14.2.2.2.n s14.2.2.2.c)]).bind fun q15 =>
    (asI .i64 (ldc q15.2 (some ⟨g12.2.next, 0, none⟩))).bind fun n16 =>
    (corbelhand_Pick.f k n16 (9 : Int) q15.2).bind fun q17 =>
    (cond (q17.1 == (6 : Int))
      ((platter_Platter_Flush.f k x8 q17.2).bind fun q22 =>
    (corbelref7_Platter_Flush.f k x9 q22.2).bind fun q23 =>
    some (Sum.inr (), q23.2))
      ((cond (q17.1 == (7 : Int))
      ((corbellaw7_PlatterActs.l1 k k x6 x7 x8 x9 x10 (some ⟨g12.2.next, 0, none⟩) (⟨none, 0, 0⟩ : Sl) (0 : Int) q17.2).bind fun w66 =>
    (platter_Platter_Crash.f k x8 w66.1 w66.2).bind fun q67 =>
    (corbelref7_Platter_Crash.f k x9 w66.1 q67.2).bind fun q68 =>
    some (Sum.inr (), q68.2))
      ((cond (q17.1 == (8 : Int))
      ((asI .i64 (ldc q17.2 (some ⟨g12.2.next, 2, none⟩))).bind fun n69 =>
    (cond ((n69.tmod (5 : Int)) == (0 : Int))
      ((platter_Platter_Wipe.f k x8 q17.2).bind fun q70 =>
    (corbelref7_Platter_Wipe.f k x9 q70.2).bind fun q71 =>
    some ((), q71.2))
      (some ((), q17.2)) : Option ((Unit) × H)).bind fun j72 =>
    some (Sum.inr (), j72.2))
      ((asI .i64 (ldc q17.2 (some ⟨g12.2.next, 1, none⟩))).bind fun n73 =>
    (corbelhand_Pick.f k n73 (wrapA .i64 (x6 + (2 : Int))) q17.2).bind fun q74 =>
    (asI .i64 (ldc q74.2 (some ⟨g12.2.next, 2, none⟩))).bind fun n75 =>
    (corbellaw7_all.f k n75 q74.2).bind fun q76 =>
    (platter_Platter_Write.f k x8 (wrapA .i64 (q74.1 - (1 : Int))) q76.1 q76.2).bind fun q77 =>
    (asI .i64 (ldc q77.2 (some ⟨g12.2.next, 2, none⟩))).bind fun n78 =>
    (corbellaw7_all.f k n78 q77.2).bind fun q79 =>
    (corbelref7_Platter_Write.f k x9 (wrapA .i64 (q74.1 - (1 : Int))) q79.1 q79.2).bind fun q80 =>
    cond (same1 q74.2 q76.2 (some (Value.pointer (some ⟨g12.2.next, 2, none⟩))) && (same1 q76.2 q77.2 (some (Value.pointer (some ⟨g12.2.next, 2, none⟩))) && (true))) (cond (!(q77.1 == q80.1))
      (some (Sum.inl false, q80.2))
      (some (Sum.inr (), q80.2))) none) : Option (((Bool) ⊕ (Unit)) × H)).bind fun j81 =>
    match j81.1 with
    | .inl r82 => some (Sum.inl r82, j81.2)
    | .inr o83 => some (Sum.inr (), j81.2)) : Option (((Bool) ⊕ (Unit)) × H)).bind fun j84 =>
    match j84.1 with
    | .inl r85 => some (Sum.inl r85, j84.2)
    | .inr o86 => some (Sum.inr (), j84.2)) : Option (((Bool) ⊕ (Unit)) × H)).bind fun j87 =>
    match j87.1 with
    | .inl r88 => some (Sum.inl r88, j87.2)
    | .inr o89 => (asP (nilA (Value.pointer x9))).bind fun p90 =>
    (asP (fadd 1 p90)).bind fun p91 =>
    (asS (ldc j87.2 p91)).bind fun s92 =>
    (corbellaw7_PlatterActs.l2 k k x6 x7 x8 x9 x10 (Int.ofNat s92.n) (⟨none, 0, 0⟩ : Sl) (0 : Int) j87.2).bind fun w109 =>
    (platter_Platter_Pending.f k x8 w109.2).bind fun q110 =>
    (corbelref7_SameInts.f k q110.1 w109.1 q110.2).bind fun q111 =>
    (cond (!q111.1) (some (true, q111.2, [], []))
      ((platter_Platter_Writes.f k x8 q111.2).bind fun q112 =>
    (asP (nilA (Value.pointer x9))).bind fun p113 =>
    (asP (fadd 2 p113)).bind fun p114 =>
    (asI .i64 (ldc q112.2 p114)).bind fun n115 =>
    some (q112.1 != n115, q112.2, ((([(8, none)] ++ [(9, none)]) ++ [(10, none)]) ++ [(11, (blkOf (some (Value.pointer p114))))]), [(7, q111.2, q112.2)])) : Option (Bool × H × LEs × EFs)).bind fun g116 =>
    cond (dynL [(2, 1), (8, 7), (9, 7), (10, 7), (11, 7)] ([(2, none)] ++ g116.2.2.1) ([(1, w109.2, q110.2)] ++ g116.2.2.2)) (cond g116.1
      (some (Sum.inl false, g116.2.1))
      ((corbellaw7_PlatterActs.l3 k k x6 x7 x8 x9 x10 (0 : Int) g116.2.1).bind fun w180 =>
    match w180.1 with
    | .inl r181 => some (Sum.inl r181, w180.2)
    | .inr o182 => ih x6 x7 x8 x9 (wrapA .i64 (x10 + (1 : Int))) w180.2)) none)
      (some (Sum.inr (), g12.2))) n
theorem corbellaw7_PlatterActs.l0_zero (k : Nat) (x6 : Int) (x7 : Sl) (x8 : Option Addr) (x9 : Option Addr) (x10 : Int) (h11 : H) : corbellaw7_PlatterActs.l0 k 0 x6 x7 x8 x9 x10 h11 = none := rfl
theorem corbellaw7_PlatterActs.l0_succ (k n : Nat) (x6 : Int) (x7 : Sl) (x8 : Option Addr) (x9 : Option Addr) (x10 : Int) (h11 : H) : corbellaw7_PlatterActs.l0 k (n + 1) x6 x7 x8 x9 x10 h11 = ((cond (decide (x10 < (Int.ofNat x7.n))) (some (decide (x10 < (60 : Int)), h11))
      (some (false, h11))).bind fun g12 =>
    cond g12.1
      ((asP (ixs 4 x7.a x7.n x10)).bind fun p13 =>
    (asSt [(.int .i64), (.int .i64), (.int .i64), .sl] (lda 4 g12.2 p13)).bind fun s14 =>
    (stv 4 (newR g12.2 48 4 [(Value.int .i64 (0 : Int)), (Value.int .i64 (0 : Int)), (Value.int .i64 (0 : Int)), (Value.slice none 0 0)]) (some ⟨g12.2.next, 0, none⟩) [(Value.int .i64 s14.1), (Value.int .i64 s14.2.1), (Value.int .i64 s14.2.2.1), (Value.slice s14.2.2.2.a s14.2.2.2.n s14.2.2.2.c)]).bind fun q15 =>
    (asI .i64 (ldc q15.2 (some ⟨g12.2.next, 0, none⟩))).bind fun n16 =>
    (corbelhand_Pick.f k n16 (9 : Int) q15.2).bind fun q17 =>
    (cond (q17.1 == (6 : Int))
      ((platter_Platter_Flush.f k x8 q17.2).bind fun q22 =>
    (corbelref7_Platter_Flush.f k x9 q22.2).bind fun q23 =>
    some (Sum.inr (), q23.2))
      ((cond (q17.1 == (7 : Int))
      ((corbellaw7_PlatterActs.l1 k k x6 x7 x8 x9 x10 (some ⟨g12.2.next, 0, none⟩) (⟨none, 0, 0⟩ : Sl) (0 : Int) q17.2).bind fun w66 =>
    (platter_Platter_Crash.f k x8 w66.1 w66.2).bind fun q67 =>
    (corbelref7_Platter_Crash.f k x9 w66.1 q67.2).bind fun q68 =>
    some (Sum.inr (), q68.2))
      ((cond (q17.1 == (8 : Int))
      ((asI .i64 (ldc q17.2 (some ⟨g12.2.next, 2, none⟩))).bind fun n69 =>
    (cond ((n69.tmod (5 : Int)) == (0 : Int))
      ((platter_Platter_Wipe.f k x8 q17.2).bind fun q70 =>
    (corbelref7_Platter_Wipe.f k x9 q70.2).bind fun q71 =>
    some ((), q71.2))
      (some ((), q17.2)) : Option ((Unit) × H)).bind fun j72 =>
    some (Sum.inr (), j72.2))
      ((asI .i64 (ldc q17.2 (some ⟨g12.2.next, 1, none⟩))).bind fun n73 =>
    (corbelhand_Pick.f k n73 (wrapA .i64 (x6 + (2 : Int))) q17.2).bind fun q74 =>
    (asI .i64 (ldc q74.2 (some ⟨g12.2.next, 2, none⟩))).bind fun n75 =>
    (corbellaw7_all.f k n75 q74.2).bind fun q76 =>
    (platter_Platter_Write.f k x8 (wrapA .i64 (q74.1 - (1 : Int))) q76.1 q76.2).bind fun q77 =>
    (asI .i64 (ldc q77.2 (some ⟨g12.2.next, 2, none⟩))).bind fun n78 =>
    (corbellaw7_all.f k n78 q77.2).bind fun q79 =>
    (corbelref7_Platter_Write.f k x9 (wrapA .i64 (q74.1 - (1 : Int))) q79.1 q79.2).bind fun q80 =>
    cond (same1 q74.2 q76.2 (some (Value.pointer (some ⟨g12.2.next, 2, none⟩))) && (same1 q76.2 q77.2 (some (Value.pointer (some ⟨g12.2.next, 2, none⟩))) && (true))) (cond (!(q77.1 == q80.1))
      (some (Sum.inl false, q80.2))
      (some (Sum.inr (), q80.2))) none) : Option (((Bool) ⊕ (Unit)) × H)).bind fun j81 =>
    match j81.1 with
    | .inl r82 => some (Sum.inl r82, j81.2)
    | .inr o83 => some (Sum.inr (), j81.2)) : Option (((Bool) ⊕ (Unit)) × H)).bind fun j84 =>
    match j84.1 with
    | .inl r85 => some (Sum.inl r85, j84.2)
    | .inr o86 => some (Sum.inr (), j84.2)) : Option (((Bool) ⊕ (Unit)) × H)).bind fun j87 =>
    match j87.1 with
    | .inl r88 => some (Sum.inl r88, j87.2)
    | .inr o89 => (asP (nilA (Value.pointer x9))).bind fun p90 =>
    (asP (fadd 1 p90)).bind fun p91 =>
    (asS (ldc j87.2 p91)).bind fun s92 =>
    (corbellaw7_PlatterActs.l2 k k x6 x7 x8 x9 x10 (Int.ofNat s92.n) (⟨none, 0, 0⟩ : Sl) (0 : Int) j87.2).bind fun w109 =>
    (platter_Platter_Pending.f k x8 w109.2).bind fun q110 =>
    (corbelref7_SameInts.f k q110.1 w109.1 q110.2).bind fun q111 =>
    (cond (!q111.1) (some (true, q111.2, [], []))
      ((platter_Platter_Writes.f k x8 q111.2).bind fun q112 =>
    (asP (nilA (Value.pointer x9))).bind fun p113 =>
    (asP (fadd 2 p113)).bind fun p114 =>
    (asI .i64 (ldc q112.2 p114)).bind fun n115 =>
    some (q112.1 != n115, q112.2, ((([(8, none)] ++ [(9, none)]) ++ [(10, none)]) ++ [(11, (blkOf (some (Value.pointer p114))))]), [(7, q111.2, q112.2)])) : Option (Bool × H × LEs × EFs)).bind fun g116 =>
    cond (dynL [(2, 1), (8, 7), (9, 7), (10, 7), (11, 7)] ([(2, none)] ++ g116.2.2.1) ([(1, w109.2, q110.2)] ++ g116.2.2.2)) (cond g116.1
      (some (Sum.inl false, g116.2.1))
      ((corbellaw7_PlatterActs.l3 k k x6 x7 x8 x9 x10 (0 : Int) g116.2.1).bind fun w180 =>
    match w180.1 with
    | .inl r181 => some (Sum.inl r181, w180.2)
    | .inr o182 => corbellaw7_PlatterActs.l0 k n x6 x7 x8 x9 (wrapA .i64 (x10 + (1 : Int))) w180.2)) none)
      (some (Sum.inr (), g12.2))) := rfl
noncomputable def corbellaw7_PlatterActs.f (k : Nat) (a0 : Int) (a1 : Sl) (h : H) : Option ((Bool) × H) :=
  (corbelhand_Pick.f k a0 (8 : Int) h).bind fun q1 =>
    (platter_New.f k (wrapA .i64 ((1 : Int) + q1.1)) q1.2).bind fun q2 =>
    (cond (!true) (some (true, q2.2))
      ((asB (binO1 Try.prog .eql 42 (Value.pointer q2.1) (Value.pointer none))).bind fun b3 =>
    some (b3, q2.2))).bind fun g4 =>
    cond g4.1
      (some (false, g4.2))
      ((corbelref7_NewPlatter.f k (wrapA .i64 ((1 : Int) + q1.1)) g4.2).bind fun q5 =>
    (corbellaw7_PlatterActs.l0 k k (wrapA .i64 ((1 : Int) + q1.1)) a1 q2.1 q5.1 (0 : Int) q5.2).bind fun w183 =>
    match w183.1 with
    | .inl r184 => some (r184, w183.2)
    | .inr o185 => some (true, w183.2))
noncomputable def corbellaw7_PlatterActs.T (k : Nat) : Tbl := tblOf [⟨17, anyArgs, wr [(.int .i64), (.int .i64)] [(.int .i64)] (fun a h => corbelhand_Pick.f k (a.1) (a.2) h)⟩,
  ⟨24, anyArgs, wr [(.int .i64)] [.ptr] (fun a h => platter_New.f k a h)⟩,
  ⟨25, anyArgs, knownW⟩,
  ⟨36, anyArgs, wr [(.int .i64)] [.ptr] (fun a h => corbelref7_NewPlatter.f k a h)⟩,
  ⟨28, anyArgs, wr [.ptr] [] (fun a h => platter_Platter_Flush.f k a h)⟩,
  ⟨37, anyArgs, wr [.ptr] [] (fun a h => corbelref7_Platter_Flush.f k a h)⟩,
  ⟨29, anyArgs, wr [.ptr, .sl] [] (fun a h => platter_Platter_Crash.f k (a.1) (a.2) h)⟩,
  ⟨38, anyArgs, wr [.ptr, .sl] [] (fun a h => corbelref7_Platter_Crash.f k (a.1) (a.2) h)⟩,
  ⟨34, anyArgs, wr [.ptr] [] (fun a h => platter_Platter_Wipe.f k a h)⟩,
  ⟨39, anyArgs, wr [.ptr] [] (fun a h => corbelref7_Platter_Wipe.f k a h)⟩,
  ⟨27, anyArgs, wr [(.int .i64)] [.sl] (fun a h => corbellaw7_all.f k a h)⟩,
  ⟨26, anyArgs, wr [.ptr, (.int .i64), .sl] [.bool] (fun a h => platter_Platter_Write.f k (a.1) (a.2.1) (a.2.2) h)⟩,
  ⟨40, anyArgs, wr [.ptr, (.int .i64), .sl] [.bool] (fun a h => corbelref7_Platter_Write.f k (a.1) (a.2.1) (a.2.2) h)⟩,
  ⟨31, anyArgs, wr [.ptr] [.sl] (fun a h => platter_Platter_Pending.f k a h)⟩,
  ⟨32, anyArgs, wr [.sl, .sl] [.bool] (fun a h => corbelref7_SameInts.f k (a.1) (a.2) h)⟩,
  ⟨33, anyArgs, wr [.ptr] [(.int .i64)] (fun a h => platter_Platter_Writes.f k a h)⟩,
  ⟨30, anyArgs, wr [.ptr, (.int .i64)] [.sl, .bool] (fun a h => platter_Platter_Read.f k (a.1) (a.2) h)⟩,
  ⟨41, anyArgs, wr [.ptr, (.int .i64)] [.str] (fun a h => corbelref7_Platter_Read.f k (a.1) (a.2) h)⟩]
noncomputable def corbellaw7_PlatterActs.an (k : Nat) (p : Nat) : Option Ann := cond (Nat.beq p 506) (some (.pass [] (lrun [(0, (.int .i64)), (1, .sl), (5, .ptr), (6, .ptr), (7, (.int .i64))] (some [(4, .bool)]) [] 0 (fun a h => corbellaw7_PlatterActs.l0 k k (a.1) (a.2.1) (a.2.2.1) (a.2.2.2.1) (a.2.2.2.2) h))))
  (cond (Nat.beq p 1036926) (some (.pass [0, 1, 5, 6, 7] (lrun [(0, (.int .i64)), (1, .sl), (5, .ptr), (6, .ptr), (7, (.int .i64)), (14, (.int .i64))] (some [(4, .bool)]) [] 7 (fun a h => corbellaw7_PlatterActs.l3 k k (a.1) (a.2.1) (a.2.2.1) (a.2.2.2.1) (a.2.2.2.2.1) (a.2.2.2.2.2) h))))
  (cond (Nat.beq p 518458) (some (.pass [0, 1, 5, 6, 7] (lrun [(0, (.int .i64)), (1, .sl), (5, .ptr), (6, .ptr), (7, (.int .i64)), (115, (.int .i64)), (12, .sl), (116, (.int .i64))] none [(12, .sl)] 5 (fun a h => corbellaw7_PlatterActs.l2 k k (a.1) (a.2.1) (a.2.2.1) (a.2.2.2.1) (a.2.2.2.2.1) (a.2.2.2.2.2.1) (a.2.2.2.2.2.2.1) (a.2.2.2.2.2.2.2) h))))
  (cond (Nat.beq p 259221) (some (.join [0, 1, 5, 6, 7] (some [(4, .bool)]) []))
  (cond (Nat.beq p 1036887) (some (.join [0, 1, 5, 6, 7] (some [(4, .bool)]) []))
  (cond (Nat.beq p 4147551) (some (.join [0, 1, 5, 6, 7] (some [(4, .bool)]) []))
  (cond (Nat.beq p 16590205) (some (.join [0, 1, 5, 6, 7] none []))
  (cond (Nat.beq p 33180394) (some (.pass [0, 1, 5, 6, 7] (lrun [(0, (.int .i64)), (1, .sl), (5, .ptr), (6, .ptr), (7, (.int .i64)), (8, .ptr), (9, .sl), (10, (.int .i64))] none [(9, .sl)] 3 (fun a h => corbellaw7_PlatterActs.l1 k k (a.1) (a.2.1) (a.2.2.1) (a.2.2.2.1) (a.2.2.2.2.1) (a.2.2.2.2.2.1) (a.2.2.2.2.2.2.1) (a.2.2.2.2.2.2.2) h))))
  (none))))))))
noncomputable def corbellaw7_PlatterActs.body : Code := (Try.f11.body).getD .skip
noncomputable def corbellaw7_PlatterActs.c506 : Code := cat corbellaw7_PlatterActs.body [1, 1, 1, 1, 1, 0, 1, 0, 0]
noncomputable def corbellaw7_PlatterActs.c33180394 : Code := cat corbellaw7_PlatterActs.body [1, 1, 1, 1, 1, 0, 1, 0, 0, 1, 0, 0, 1, 0, 1, 0, 1, 1, 1, 0, 1, 0, 1, 0, 0]
noncomputable def corbellaw7_PlatterActs.c518458 : Code := cat corbellaw7_PlatterActs.body [1, 1, 1, 1, 1, 0, 1, 0, 0, 1, 0, 0, 1, 1, 1, 0, 1, 0, 0]
noncomputable def corbellaw7_PlatterActs.c1036926 : Code := cat corbellaw7_PlatterActs.body [1, 1, 1, 1, 1, 0, 1, 0, 0, 1, 0, 0, 1, 1, 1, 1, 1, 1, 0, 0]
set_option maxRecDepth 100000 in
theorem corbellaw7_PlatterActs.TS {C : FuncId → Bool} {X : CallF} (hX : XOk C X) (hK25 : KOk X 25) (k : Nat) : TblS Try.prog C X (corbellaw7_PlatterActs.T k) := by
  refine tblOf_sound ?_
  intro e he
  rcases List.mem_cons.1 he with rfl | he
  · exact wr_told (corbelhand_Pick.told hX k)
  rcases List.mem_cons.1 he with rfl | he
  · exact wr_told (platter_New.told hX k)
  rcases List.mem_cons.1 he with rfl | he
  · exact knownW_told hK25
  rcases List.mem_cons.1 he with rfl | he
  · exact wr_told (corbelref7_NewPlatter.told hX k)
  rcases List.mem_cons.1 he with rfl | he
  · exact wr_told (platter_Platter_Flush.told hX k)
  rcases List.mem_cons.1 he with rfl | he
  · exact wr_told (corbelref7_Platter_Flush.told hX k)
  rcases List.mem_cons.1 he with rfl | he
  · exact wr_told (platter_Platter_Crash.told hX k)
  rcases List.mem_cons.1 he with rfl | he
  · exact wr_told (corbelref7_Platter_Crash.told hX k)
  rcases List.mem_cons.1 he with rfl | he
  · exact wr_told (platter_Platter_Wipe.told hX k)
  rcases List.mem_cons.1 he with rfl | he
  · exact wr_told (corbelref7_Platter_Wipe.told hX k)
  rcases List.mem_cons.1 he with rfl | he
  · exact wr_told (corbellaw7_all.told hX k)
  rcases List.mem_cons.1 he with rfl | he
  · exact wr_told (platter_Platter_Write.told hX k)
  rcases List.mem_cons.1 he with rfl | he
  · exact wr_told (corbelref7_Platter_Write.told hX k)
  rcases List.mem_cons.1 he with rfl | he
  · exact wr_told (platter_Platter_Pending.told hX k)
  rcases List.mem_cons.1 he with rfl | he
  · exact wr_told (corbelref7_SameInts.told hX k)
  rcases List.mem_cons.1 he with rfl | he
  · exact wr_told (platter_Platter_Writes.told hX k)
  rcases List.mem_cons.1 he with rfl | he
  · exact wr_told (platter_Platter_Read.told hX k)
  rcases List.mem_cons.1 he with rfl | he
  · exact wr_told (corbelref7_Platter_Read.told hX k)
  exact absurd he List.not_mem_nil
set_option maxRecDepth 100000 in
theorem corbellaw7_PlatterActs.l1_pass {C : FuncId → Bool} {X : CallF} (hX : XOk C X) (hK25 : KOk X 25) (k n : Nat) : PassS Try.prog C X 171 (.loop corbellaw7_PlatterActs.c33180394) (lrun [(0, (.int .i64)), (1, .sl), (5, .ptr), (6, .ptr), (7, (.int .i64)), (8, .ptr), (9, .sl), (10, (.int .i64))] none [(9, .sl)] 3 (fun a h => corbellaw7_PlatterActs.l1 k n (a.1) (a.2.1) (a.2.2.1) (a.2.2.2.1) (a.2.2.2.2.1) (a.2.2.2.2.2.1) (a.2.2.2.2.2.2.1) (a.2.2.2.2.2.2.2) h)) :=
  loop_pass (ins := [(0, (.int .i64)), (1, .sl), (5, .ptr), (6, .ptr), (7, (.int .i64)), (8, .ptr), (9, .sl), (10, (.int .i64))]) (rets := none) (outs := [(9, .sl)]) (id := 3) (tbl := corbellaw7_PlatterActs.T k) (an := corbellaw7_PlatterActs.an k) (pb := 66360788) (corbellaw7_PlatterActs.TS hX hK25 k) (fun n => (fun a h => corbellaw7_PlatterActs.l1 k n (a.1) (a.2.1) (a.2.2.1) (a.2.2.2.1) (a.2.2.2.2.1) (a.2.2.2.2.2.1) (a.2.2.2.2.2.2.1) (a.2.2.2.2.2.2.2) h)) (fun a h => rfl) (fun n a h => by kernel_rfl)
    (by
      have e : need (corbellaw7_PlatterActs.an k) corbellaw7_PlatterActs.c33180394 66360788 = [] := by kernel_rfl
      rw [e]; intro q hq; cases hq) n
set_option maxRecDepth 100000 in
theorem corbellaw7_PlatterActs.l3_pass {C : FuncId → Bool} {X : CallF} (hX : XOk C X) (hK25 : KOk X 25) (k n : Nat) : PassS Try.prog C X 171 (.loop corbellaw7_PlatterActs.c1036926) (lrun [(0, (.int .i64)), (1, .sl), (5, .ptr), (6, .ptr), (7, (.int .i64)), (14, (.int .i64))] (some [(4, .bool)]) [] 7 (fun a h => corbellaw7_PlatterActs.l3 k n (a.1) (a.2.1) (a.2.2.1) (a.2.2.2.1) (a.2.2.2.2.1) (a.2.2.2.2.2) h)) :=
  loop_pass (ins := [(0, (.int .i64)), (1, .sl), (5, .ptr), (6, .ptr), (7, (.int .i64)), (14, (.int .i64))]) (rets := (some [(4, .bool)])) (outs := []) (id := 7) (tbl := corbellaw7_PlatterActs.T k) (an := corbellaw7_PlatterActs.an k) (pb := 2073852) (corbellaw7_PlatterActs.TS hX hK25 k) (fun n => (fun a h => corbellaw7_PlatterActs.l3 k n (a.1) (a.2.1) (a.2.2.1) (a.2.2.2.1) (a.2.2.2.2.1) (a.2.2.2.2.2) h)) (fun a h => rfl) (fun n a h => by kernel_rfl)
    (by
      have e : need (corbellaw7_PlatterActs.an k) corbellaw7_PlatterActs.c1036926 2073852 = [] := by kernel_rfl
      rw [e]; intro q hq; cases hq) n
set_option maxRecDepth 100000 in
theorem corbellaw7_PlatterActs.l2_pass {C : FuncId → Bool} {X : CallF} (hX : XOk C X) (hK25 : KOk X 25) (k n : Nat) : PassS Try.prog C X 171 (.loop corbellaw7_PlatterActs.c518458) (lrun [(0, (.int .i64)), (1, .sl), (5, .ptr), (6, .ptr), (7, (.int .i64)), (115, (.int .i64)), (12, .sl), (116, (.int .i64))] none [(12, .sl)] 5 (fun a h => corbellaw7_PlatterActs.l2 k n (a.1) (a.2.1) (a.2.2.1) (a.2.2.2.1) (a.2.2.2.2.1) (a.2.2.2.2.2.1) (a.2.2.2.2.2.2.1) (a.2.2.2.2.2.2.2) h)) :=
  loop_pass (ins := [(0, (.int .i64)), (1, .sl), (5, .ptr), (6, .ptr), (7, (.int .i64)), (115, (.int .i64)), (12, .sl), (116, (.int .i64))]) (rets := none) (outs := [(12, .sl)]) (id := 5) (tbl := corbellaw7_PlatterActs.T k) (an := corbellaw7_PlatterActs.an k) (pb := 1036916) (corbellaw7_PlatterActs.TS hX hK25 k) (fun n => (fun a h => corbellaw7_PlatterActs.l2 k n (a.1) (a.2.1) (a.2.2.1) (a.2.2.2.1) (a.2.2.2.2.1) (a.2.2.2.2.2.1) (a.2.2.2.2.2.2.1) (a.2.2.2.2.2.2.2) h)) (fun a h => rfl) (fun n a h => by kernel_rfl)
    (by
      have e : need (corbellaw7_PlatterActs.an k) corbellaw7_PlatterActs.c518458 1036916 = [] := by kernel_rfl
      rw [e]; intro q hq; cases hq) n
set_option maxRecDepth 100000 in
theorem corbellaw7_PlatterActs.l0_pass {C : FuncId → Bool} {X : CallF} (hX : XOk C X) (hK25 : KOk X 25) (k n : Nat) : PassS Try.prog C X 171 (.loop corbellaw7_PlatterActs.c506) (lrun [(0, (.int .i64)), (1, .sl), (5, .ptr), (6, .ptr), (7, (.int .i64))] (some [(4, .bool)]) [] 0 (fun a h => corbellaw7_PlatterActs.l0 k n (a.1) (a.2.1) (a.2.2.1) (a.2.2.2.1) (a.2.2.2.2) h)) :=
  loop_pass (ins := [(0, (.int .i64)), (1, .sl), (5, .ptr), (6, .ptr), (7, (.int .i64))]) (rets := (some [(4, .bool)])) (outs := []) (id := 0) (tbl := corbellaw7_PlatterActs.T k) (an := corbellaw7_PlatterActs.an k) (pb := 1012) (corbellaw7_PlatterActs.TS hX hK25 k) (fun n => (fun a h => corbellaw7_PlatterActs.l0 k n (a.1) (a.2.1) (a.2.2.1) (a.2.2.2.1) (a.2.2.2.2) h)) (fun a h => rfl) (fun n a h => by kernel_rfl)
    (by
      have e : need (corbellaw7_PlatterActs.an k) corbellaw7_PlatterActs.c506 1012 = [(Code.loop corbellaw7_PlatterActs.c33180394, lrun [(0, (.int .i64)), (1, .sl), (5, .ptr), (6, .ptr), (7, (.int .i64)), (8, .ptr), (9, .sl), (10, (.int .i64))] none [(9, .sl)] 3 (fun a h => corbellaw7_PlatterActs.l1 k k (a.1) (a.2.1) (a.2.2.1) (a.2.2.2.1) (a.2.2.2.2.1) (a.2.2.2.2.2.1) (a.2.2.2.2.2.2.1) (a.2.2.2.2.2.2.2) h)), (Code.loop corbellaw7_PlatterActs.c518458, lrun [(0, (.int .i64)), (1, .sl), (5, .ptr), (6, .ptr), (7, (.int .i64)), (115, (.int .i64)), (12, .sl), (116, (.int .i64))] none [(12, .sl)] 5 (fun a h => corbellaw7_PlatterActs.l2 k k (a.1) (a.2.1) (a.2.2.1) (a.2.2.2.1) (a.2.2.2.2.1) (a.2.2.2.2.2.1) (a.2.2.2.2.2.2.1) (a.2.2.2.2.2.2.2) h)), (Code.loop corbellaw7_PlatterActs.c1036926, lrun [(0, (.int .i64)), (1, .sl), (5, .ptr), (6, .ptr), (7, (.int .i64)), (14, (.int .i64))] (some [(4, .bool)]) [] 7 (fun a h => corbellaw7_PlatterActs.l3 k k (a.1) (a.2.1) (a.2.2.1) (a.2.2.2.1) (a.2.2.2.2.1) (a.2.2.2.2.2) h))] := by kernel_rfl
      rw [e]; intro q hq
      rcases List.mem_cons.1 hq with rfl | hq
      · exact corbellaw7_PlatterActs.l1_pass hX hK25 k k
      rcases List.mem_cons.1 hq with rfl | hq
      · exact corbellaw7_PlatterActs.l2_pass hX hK25 k k
      rcases List.mem_cons.1 hq with rfl | hq
      · exact corbellaw7_PlatterActs.l3_pass hX hK25 k k
      cases hq) n
set_option maxRecDepth 100000 in
theorem corbellaw7_PlatterActs.eq (k : Nat) (a : RT [(.int .i64), .sl]) (h : H) : (fun a h => corbellaw7_PlatterActs.f k (a.1) (a.2) h) a h = kfun Try.prog (corbellaw7_PlatterActs.T k) (corbellaw7_PlatterActs.an k) (RT [.bool] × H) Try.f11 (encL [(.int .i64), .sl] a) h (fun vs h' => (decL [.bool] vs).bind fun x => some (x, h')) := by kernel_rfl
set_option maxRecDepth 100000 in
theorem corbellaw7_PlatterActs.told {C : FuncId → Bool} {X : CallF} (hX : XOk C X) (hK25 : KOk X 25) (k : Nat) : Den.Told Try.prog C X 11 [(.int .i64), .sl] [.bool] (fun a h => corbellaw7_PlatterActs.f k (a.1) (a.2) h) :=
  told_of fun a h q e => fn_of (c := corbellaw7_PlatterActs.body) (corbellaw7_PlatterActs.TS hX hK25 k) Try.func11 (by kernel_rfl) (hX.no 11 _ h (by decide))
    (by
      have e : need (corbellaw7_PlatterActs.an k) corbellaw7_PlatterActs.body 1 = [(Code.loop corbellaw7_PlatterActs.c506, lrun [(0, (.int .i64)), (1, .sl), (5, .ptr), (6, .ptr), (7, (.int .i64))] (some [(4, .bool)]) [] 0 (fun a h => corbellaw7_PlatterActs.l0 k k (a.1) (a.2.1) (a.2.2.1) (a.2.2.2.1) (a.2.2.2.2) h))] := by kernel_rfl
      rw [e]; intro q hq
      rcases List.mem_cons.1 hq with rfl | hq
      · exact corbellaw7_PlatterActs.l0_pass hX hK25 k k
      cases hq)
    ((corbellaw7_PlatterActs.eq k a h).symm.trans e)
end Go.Proofs.Ytbegaeohggkblaa.Fwd
