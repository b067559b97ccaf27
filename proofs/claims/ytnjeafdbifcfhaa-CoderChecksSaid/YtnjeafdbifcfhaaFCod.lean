/- Forward runs of functions of the program, printed by a program of this session: each function on plain values and memory, and that the code comes to it. No condition. -/
import Derived.Test.YtnjeafdbifcfhaaDenZ
import Derived.KernelRfl
import Derived.Test.YtnjeafdbifcfhaaFF
namespace Go.Proofs.Ytnjeafdbifcfhaa.Fwd
open Go Den
set_option linter.unusedVariables false
/-! ### corbel/corbellaw5.CoderAdds -/
noncomputable def corbellaw5_CoderAdds.l2 (k : Nat) (n : Nat) : Sl → Sl → Sl → Int → Int → Int → Int → Int → H → Option (((Bool) ⊕ (Unit)) × H) :=
  Nat.rec (motive := fun _ => Sl → Sl → Sl → Int → Int → Int → Int → Int → H → Option (((Bool) ⊕ (Unit)) × H)) (fun _ _ _ _ _ _ _ _ _ => none) (fun _ ih x45 x46 x47 x48 x49 x50 x51 x52 h53 => cond (decide (x52 < x51))
      ((asP (ixs 1 x47.a x47.n x48)).bind fun p54 =>
    (asS (ldc h53 p54)).bind fun s55 =>
    (asP (ixs 1 s55.a s55.n x52)).bind fun p56 =>
    (asI .u8 (ldc h53 p56)).bind fun n57 =>
    (asP (ixs 1 x45.a x45.n x48)).bind fun p58 =>
    (asS (ldc h53 p58)).bind fun s59 =>
    (asP (ixs 1 s59.a s59.n x52)).bind fun p60 =>
    (asI .u8 (ldc h53 p60)).bind fun n61 =>
    (asP (ixs 1 x46.a x46.n x48)).bind fun p62 =>
    (asS (ldc h53 p62)).bind fun s63 =>
    (asP (ixs 1 s63.a s63.n x52)).bind fun p64 =>
    (asI .u8 (ldc h53 p64)).bind fun n65 =>
    (asI .u8 (intA .xor .u8 n61 n65)).bind fun n66 =>
    cond (n57 != n66)
      (some (Sum.inl false, h53))
      (ih x45 x46 x47 x48 x49 x50 x51 (wrapA .i64 (x52 + (1 : Int))) h53))
      (some (Sum.inr (), h53))) n
theorem corbellaw5_CoderAdds.l2_zero (k : Nat) (x45 : Sl) (x46 : Sl) (x47 : Sl) (x48 : Int) (x49 : Int) (x50 : Int) (x51 : Int) (x52 : Int) (h53 : H) : corbellaw5_CoderAdds.l2 k 0 x45 x46 x47 x48 x49 x50 x51 x52 h53 = none := rfl
theorem corbellaw5_CoderAdds.l2_succ (k n : Nat) (x45 : Sl) (x46 : Sl) (x47 : Sl) (x48 : Int) (x49 : Int) (x50 : Int) (x51 : Int) (x52 : Int) (h53 : H) : corbellaw5_CoderAdds.l2 k (n + 1) x45 x46 x47 x48 x49 x50 x51 x52 h53 = (cond (decide (x52 < x51))
      ((asP (ixs 1 x47.a x47.n x48)).bind fun p54 =>
    (asS (ldc h53 p54)).bind fun s55 =>
    (asP (ixs 1 s55.a s55.n x52)).bind fun p56 =>
    (asI .u8 (ldc h53 p56)).bind fun n57 =>
    (asP (ixs 1 x45.a x45.n x48)).bind fun p58 =>
    (asS (ldc h53 p58)).bind fun s59 =>
    (asP (ixs 1 s59.a s59.n x52)).bind fun p60 =>
    (asI .u8 (ldc h53 p60)).bind fun n61 =>
    (asP (ixs 1 x46.a x46.n x48)).bind fun p62 =>
    (asS (ldc h53 p62)).bind fun s63 =>
    (asP (ixs 1 s63.a s63.n x52)).bind fun p64 =>
    (asI .u8 (ldc h53 p64)).bind fun n65 =>
    (asI .u8 (intA .xor .u8 n61 n65)).bind fun n66 =>
    cond (n57 != n66)
      (some (Sum.inl false, h53))
      (corbellaw5_CoderAdds.l2 k n x45 x46 x47 x48 x49 x50 x51 (wrapA .i64 (x52 + (1 : Int))) h53))
      (some (Sum.inr (), h53))) := rfl
noncomputable def corbellaw5_CoderAdds.l1 (k : Nat) (n : Nat) : Sl → Sl → Sl → Int → Int → H → Option (((Bool) ⊕ (Unit)) × H) :=
  Nat.rec (motive := fun _ => Sl → Sl → Sl → Int → Int → H → Option (((Bool) ⊕ (Unit)) × H)) (fun _ _ _ _ _ _ => none) (fun _ ih x29 x30 x31 x32 x33 h34 => cond (decide (x33 < x32))
      ((asP (ixs 1 x29.a x29.n x33)).bind fun p35 =>
    (asS (ldc h34 p35)).bind fun s36 =>
    (cond ((Int.ofNat s36.n) != (32 : Int)) (some (true, h34))
      ((asP (ixs 1 x30.a x30.n x33)).bind fun p37 =>
    (asS (ldc h34 p37)).bind fun s38 =>
    some ((Int.ofNat s38.n) != (32 : Int), h34))).bind fun g39 =>
    (cond g39.1 (some (true, g39.2))
      ((asP (ixs 1 x31.a x31.n x33)).bind fun p40 =>
    (asS (ldc g39.2 p40)).bind fun s41 =>
    some ((Int.ofNat s41.n) != (32 : Int), g39.2))).bind fun g42 =>
    cond g42.1
      (some (Sum.inl false, g42.2))
      ((asP (ixs 1 x31.a x31.n x33)).bind fun p43 =>
    (asS (ldc g42.2 p43)).bind fun s44 =>
    (corbellaw5_CoderAdds.l2 k k x29 x30 x31 x33 x32 x33 (Int.ofNat s44.n) (0 : Int) g42.2).bind fun w67 =>
    match w67.1 with
    | .inl r68 => some (Sum.inl r68, w67.2)
    | .inr o69 => ih x29 x30 x31 x32 (wrapA .i64 (x33 + (1 : Int))) w67.2))
      (some (Sum.inr (), h34))) n
theorem corbellaw5_CoderAdds.l1_zero (k : Nat) (x29 : Sl) (x30 : Sl) (x31 : Sl) (x32 : Int) (x33 : Int) (h34 : H) : corbellaw5_CoderAdds.l1 k 0 x29 x30 x31 x32 x33 h34 = none := rfl
theorem corbellaw5_CoderAdds.l1_succ (k n : Nat) (x29 : Sl) (x30 : Sl) (x31 : Sl) (x32 : Int) (x33 : Int) (h34 : H) : corbellaw5_CoderAdds.l1 k (n + 1) x29 x30 x31 x32 x33 h34 = (cond (decide (x33 < x32))
      ((asP (ixs 1 x29.a x29.n x33)).bind fun p35 =>
    (asS (ldc h34 p35)).bind fun s36 =>
    (cond ((Int.ofNat s36.n) != (32 : Int)) (some (true, h34))
      ((asP (ixs 1 x30.a x30.n x33)).bind fun p37 =>
    (asS (ldc h34 p37)).bind fun s38 =>
    some ((Int.ofNat s38.n) != (32 : Int), h34))).bind fun g39 =>
    (cond g39.1 (some (true, g39.2))
      ((asP (ixs 1 x31.a x31.n x33)).bind fun p40 =>
    (asS (ldc g39.2 p40)).bind fun s41 =>
    some ((Int.ofNat s41.n) != (32 : Int), g39.2))).bind fun g42 =>
    cond g42.1
      (some (Sum.inl false, g42.2))
      ((asP (ixs 1 x31.a x31.n x33)).bind fun p43 =>
    (asS (ldc g42.2 p43)).bind fun s44 =>
    (corbellaw5_CoderAdds.l2 k k x29 x30 x31 x33 x32 x33 (Int.ofNat s44.n) (0 : Int) g42.2).bind fun w67 =>
    match w67.1 with
    | .inl r68 => some (Sum.inl r68, w67.2)
    | .inr o69 => corbellaw5_CoderAdds.l1 k n x29 x30 x31 x32 (wrapA .i64 (x33 + (1 : Int))) w67.2))
      (some (Sum.inr (), h34))) := rfl
noncomputable def corbellaw5_CoderAdds.l0 (k : Nat) (n : Nat) : (Option Addr) → Sl → Sl → Sl → Int → Int → H → Option ((Unit) × H) :=
  Nat.rec (motive := fun _ => (Option Addr) → Sl → Sl → Sl → Int → Int → H → Option ((Unit) × H)) (fun _ _ _ _ _ _ _ => none) (fun _ ih x6 x7 x8 x9 x10 x11 h12 => cond (decide (x11 < x10))
      ((asP (ixs 1 x7.a x7.n x11)).bind fun p13 =>
    (asI .u8 (ldc h12 p13)).bind fun n14 =>
    (asP (ixs 1 x8.a x8.n x11)).bind fun p15 =>
    (asI .u8 (ldc h12 p15)).bind fun n16 =>
    (asI .u8 (intA .xor .u8 n14 n16)).bind fun n17 =>
    (asP (ixs 1 x9.a x9.n x11)).bind fun p18 =>
    (stv 1 h12 p18 [(Value.int .u8 n17)]).bind fun q19 =>
    ih x6 x7 x8 x9 x10 (wrapA .i64 (x11 + (1 : Int))) q19.2)
      (some ((), h12))) n
theorem corbellaw5_CoderAdds.l0_zero (k : Nat) (x6 : Option Addr) (x7 : Sl) (x8 : Sl) (x9 : Sl) (x10 : Int) (x11 : Int) (h12 : H) : corbellaw5_CoderAdds.l0 k 0 x6 x7 x8 x9 x10 x11 h12 = none := rfl
theorem corbellaw5_CoderAdds.l0_succ (k n : Nat) (x6 : Option Addr) (x7 : Sl) (x8 : Sl) (x9 : Sl) (x10 : Int) (x11 : Int) (h12 : H) : corbellaw5_CoderAdds.l0 k (n + 1) x6 x7 x8 x9 x10 x11 h12 = (cond (decide (x11 < x10))
      ((asP (ixs 1 x7.a x7.n x11)).bind fun p13 =>
    (asI .u8 (ldc h12 p13)).bind fun n14 =>
    (asP (ixs 1 x8.a x8.n x11)).bind fun p15 =>
    (asI .u8 (ldc h12 p15)).bind fun n16 =>
    (asI .u8 (intA .xor .u8 n14 n16)).bind fun n17 =>
    (asP (ixs 1 x9.a x9.n x11)).bind fun p18 =>
    (stv 1 h12 p18 [(Value.int .u8 n17)]).bind fun q19 =>
    corbellaw5_CoderAdds.l0 k n x6 x7 x8 x9 x10 (wrapA .i64 (x11 + (1 : Int))) q19.2)
      (some ((), h12))) := rfl
noncomputable def corbellaw5_CoderAdds.f (k : Nat) (a0 : Int) (a1 : Int) (h : H) : Option ((Bool) × H) :=
  (coder_New.f k h).bind fun q1 =>
    (cond (!true) (some (true, q1.2))
      ((asB (binO1 Try.prog .eql 53 (Value.pointer q1.1) (Value.pointer none))).bind fun b2 =>
    some (b2, q1.2))).bind fun g3 =>
    cond g3.1
      (some (false, g3.2))
      ((corbelhand_Bytes.f k a0 (128 : Int) g3.2).bind fun q4 =>
    (corbelhand_Bytes.f k a1 (128 : Int) q4.2).bind fun q5 =>
    (corbellaw5_CoderAdds.l0 k k q1.1 q4.1 q5.1 (⟨(some ⟨q5.2.next, 0, none⟩), 128, 128⟩ : Sl) (Int.ofNat 128) (0 : Int) (newZ q5.2 5 1 [(Value.int .u8 (0 : Int))] 128)).bind fun w20 =>
    (coder_Coder_Encode.f k q1.1 q4.1 w20.2).bind fun q21 =>
    (coder_Coder_Encode.f k q1.1 q5.1 q21.2).bind fun q22 =>
    (coder_Coder_Encode.f k q1.1 (⟨(some ⟨q5.2.next, 0, none⟩), 128, 128⟩ : Sl) q22.2).bind fun q23 =>
    (cond (q21.1.2 != (0 : Int)) (some (true, q23.2))
      (some (q22.1.2 != (0 : Int), q23.2))).bind fun g24 =>
    (cond g24.1 (some (true, g24.2))
      (some (q23.1.2 != (0 : Int), g24.2))).bind fun g25 =>
    (cond g25.1 (some (true, g25.2))
      (some ((Int.ofNat q21.1.1.n) != (6 : Int), g25.2))).bind fun g26 =>
    (cond g26.1 (some (true, g26.2))
      (some ((Int.ofNat q22.1.1.n) != (6 : Int), g26.2))).bind fun g27 =>
    (cond g27.1 (some (true, g27.2))
      (some ((Int.ofNat q23.1.1.n) != (6 : Int), g27.2))).bind fun g28 =>
    cond g28.1
      (some (false, g28.2))
      ((corbellaw5_CoderAdds.l1 k k q21.1.1 q22.1.1 q23.1.1 (Int.ofNat q23.1.1.n) (0 : Int) g28.2).bind fun w70 =>
    match w70.1 with
    | .inl r71 => some (r71, w70.2)
    | .inr o72 => some (true, w70.2)))
noncomputable def corbellaw5_CoderAdds.T (k : Nat) : Tbl := tblOf [⟨42, anyArgs, wr [] [.ptr] (fun a h => coder_New.f k h)⟩,
  ⟨43, anyArgs, knownW⟩,
  ⟨44, anyArgs, wr [(.int .i64), (.int .i64)] [.sl] (fun a h => corbelhand_Bytes.f k (a.1) (a.2) h)⟩,
  ⟨45, anyArgs, wr [.ptr, .sl] [.sl, (.int .i64)] (fun a h => coder_Coder_Encode.f k (a.1) (a.2) h)⟩]
noncomputable def corbellaw5_CoderAdds.an (k : Nat) (p : Nat) : Option Ann := cond (Nat.beq p 32762) (some (.pass [] (lrun [(10, .sl), (12, .sl), (14, .sl), (92, (.int .i64)), (93, (.int .i64))] (some [(4, .bool)]) [] 2 (fun a h => corbellaw5_CoderAdds.l1 k k (a.1) (a.2.1) (a.2.2.1) (a.2.2.2.1) (a.2.2.2.2) h))))
  (cond (Nat.beq p 16774350) (some (.pass [10, 12, 14, 92, 93] (lrun [(10, .sl), (12, .sl), (14, .sl), (16, (.int .i64)), (92, (.int .i64)), (93, (.int .i64)), (122, (.int .i64)), (123, (.int .i64))] (some [(4, .bool)]) [] 4 (fun a h => corbellaw5_CoderAdds.l2 k k (a.1) (a.2.1) (a.2.2.1) (a.2.2.2.1) (a.2.2.2.2.1) (a.2.2.2.2.2.1) (a.2.2.2.2.2.2.1) (a.2.2.2.2.2.2.2) h))))
  (cond (Nat.beq p 1018) (some (.pass [5, 6, 7, 8] (lrun [(5, .ptr), (6, .sl), (7, .sl), (8, .sl), (31, (.int .i64)), (32, (.int .i64))] none [] 0 (fun a h => corbellaw5_CoderAdds.l0 k k (a.1) (a.2.1) (a.2.2.1) (a.2.2.2.1) (a.2.2.2.2.1) (a.2.2.2.2.2) h))))
  (none)))
noncomputable def corbellaw5_CoderAdds.body : Code := (Try.f12.body).getD .skip
noncomputable def corbellaw5_CoderAdds.c1018 : Code := cat corbellaw5_CoderAdds.body [1, 1, 1, 1, 1, 1, 0, 1, 0, 0]
noncomputable def corbellaw5_CoderAdds.c32762 : Code := cat corbellaw5_CoderAdds.body [1, 1, 1, 1, 1, 1, 1, 1, 1, 1, 1, 0, 1, 0, 0]
noncomputable def corbellaw5_CoderAdds.c16774350 : Code := cat corbellaw5_CoderAdds.body [1, 1, 1, 1, 1, 1, 1, 1, 1, 1, 1, 0, 1, 0, 0, 1, 1, 0, 0, 1, 1, 1, 0, 0]
set_option maxRecDepth 100000 in
theorem corbellaw5_CoderAdds.TS {C : FuncId → Bool} {X : CallF} (hX : XOk C X) (hK43 : KOk X 43) (k : Nat) : TblS Try.prog C X (corbellaw5_CoderAdds.T k) := by
  refine tblOf_sound ?_
  intro e he
  rcases List.mem_cons.1 he with rfl | he
  · exact wr_told (coder_New.told hX k)
  rcases List.mem_cons.1 he with rfl | he
  · exact knownW_told hK43
  rcases List.mem_cons.1 he with rfl | he
  · exact wr_told (corbelhand_Bytes.told hX k)
  rcases List.mem_cons.1 he with rfl | he
  · exact wr_told (coder_Coder_Encode.told hX k)
  exact absurd he List.not_mem_nil
set_option maxRecDepth 100000 in
theorem corbellaw5_CoderAdds.l2_pass {C : FuncId → Bool} {X : CallF} (hX : XOk C X) (hK43 : KOk X 43) (k n : Nat) : PassS Try.prog C X 151 (.loop corbellaw5_CoderAdds.c16774350) (lrun [(10, .sl), (12, .sl), (14, .sl), (16, (.int .i64)), (92, (.int .i64)), (93, (.int .i64)), (122, (.int .i64)), (123, (.int .i64))] (some [(4, .bool)]) [] 4 (fun a h => corbellaw5_CoderAdds.l2 k n (a.1) (a.2.1) (a.2.2.1) (a.2.2.2.1) (a.2.2.2.2.1) (a.2.2.2.2.2.1) (a.2.2.2.2.2.2.1) (a.2.2.2.2.2.2.2) h)) :=
  loop_pass (ins := [(10, .sl), (12, .sl), (14, .sl), (16, (.int .i64)), (92, (.int .i64)), (93, (.int .i64)), (122, (.int .i64)), (123, (.int .i64))]) (rets := (some [(4, .bool)])) (outs := []) (id := 4) (tbl := corbellaw5_CoderAdds.T k) (an := corbellaw5_CoderAdds.an k) (pb := 33548700) (corbellaw5_CoderAdds.TS hX hK43 k) (fun n => (fun a h => corbellaw5_CoderAdds.l2 k n (a.1) (a.2.1) (a.2.2.1) (a.2.2.2.1) (a.2.2.2.2.1) (a.2.2.2.2.2.1) (a.2.2.2.2.2.2.1) (a.2.2.2.2.2.2.2) h)) (fun a h => rfl) (fun n a h => by kernel_rfl)
    (by
      have e : need (corbellaw5_CoderAdds.an k) corbellaw5_CoderAdds.c16774350 33548700 = [] := by kernel_rfl
      rw [e]; intro q hq; cases hq) n
set_option maxRecDepth 100000 in
theorem corbellaw5_CoderAdds.l1_pass {C : FuncId → Bool} {X : CallF} (hX : XOk C X) (hK43 : KOk X 43) (k n : Nat) : PassS Try.prog C X 151 (.loop corbellaw5_CoderAdds.c32762) (lrun [(10, .sl), (12, .sl), (14, .sl), (92, (.int .i64)), (93, (.int .i64))] (some [(4, .bool)]) [] 2 (fun a h => corbellaw5_CoderAdds.l1 k n (a.1) (a.2.1) (a.2.2.1) (a.2.2.2.1) (a.2.2.2.2) h)) :=
  loop_pass (ins := [(10, .sl), (12, .sl), (14, .sl), (92, (.int .i64)), (93, (.int .i64))]) (rets := (some [(4, .bool)])) (outs := []) (id := 2) (tbl := corbellaw5_CoderAdds.T k) (an := corbellaw5_CoderAdds.an k) (pb := 65524) (corbellaw5_CoderAdds.TS hX hK43 k) (fun n => (fun a h => corbellaw5_CoderAdds.l1 k n (a.1) (a.2.1) (a.2.2.1) (a.2.2.2.1) (a.2.2.2.2) h)) (fun a h => rfl) (fun n a h => by kernel_rfl)
    (by
      have e : need (corbellaw5_CoderAdds.an k) corbellaw5_CoderAdds.c32762 65524 = [(Code.loop corbellaw5_CoderAdds.c16774350, lrun [(10, .sl), (12, .sl), (14, .sl), (16, (.int .i64)), (92, (.int .i64)), (93, (.int .i64)), (122, (.int .i64)), (123, (.int .i64))] (some [(4, .bool)]) [] 4 (fun a h => corbellaw5_CoderAdds.l2 k k (a.1) (a.2.1) (a.2.2.1) (a.2.2.2.1) (a.2.2.2.2.1) (a.2.2.2.2.2.1) (a.2.2.2.2.2.2.1) (a.2.2.2.2.2.2.2) h))] := by kernel_rfl
      rw [e]; intro q hq
      rcases List.mem_cons.1 hq with rfl | hq
      · exact corbellaw5_CoderAdds.l2_pass hX hK43 k k
      cases hq) n
set_option maxRecDepth 100000 in
theorem corbellaw5_CoderAdds.l0_pass {C : FuncId → Bool} {X : CallF} (hX : XOk C X) (hK43 : KOk X 43) (k n : Nat) : PassS Try.prog C X 151 (.loop corbellaw5_CoderAdds.c1018) (lrun [(5, .ptr), (6, .sl), (7, .sl), (8, .sl), (31, (.int .i64)), (32, (.int .i64))] none [] 0 (fun a h => corbellaw5_CoderAdds.l0 k n (a.1) (a.2.1) (a.2.2.1) (a.2.2.2.1) (a.2.2.2.2.1) (a.2.2.2.2.2) h)) :=
  loop_pass (ins := [(5, .ptr), (6, .sl), (7, .sl), (8, .sl), (31, (.int .i64)), (32, (.int .i64))]) (rets := none) (outs := []) (id := 0) (tbl := corbellaw5_CoderAdds.T k) (an := corbellaw5_CoderAdds.an k) (pb := 2036) (corbellaw5_CoderAdds.TS hX hK43 k) (fun n => (fun a h => corbellaw5_CoderAdds.l0 k n (a.1) (a.2.1) (a.2.2.1) (a.2.2.2.1) (a.2.2.2.2.1) (a.2.2.2.2.2) h)) (fun a h => rfl) (fun n a h => by kernel_rfl)
    (by
      have e : need (corbellaw5_CoderAdds.an k) corbellaw5_CoderAdds.c1018 2036 = [] := by kernel_rfl
      rw [e]; intro q hq; cases hq) n
set_option maxRecDepth 100000 in
theorem corbellaw5_CoderAdds.eq (k : Nat) (a : RT [(.int .i64), (.int .i64)]) (h : H) : (fun a h => corbellaw5_CoderAdds.f k (a.1) (a.2) h) a h = kfun Try.prog (corbellaw5_CoderAdds.T k) (corbellaw5_CoderAdds.an k) (RT [.bool] × H) Try.f12 (encL [(.int .i64), (.int .i64)] a) h (fun vs h' => (decL [.bool] vs).bind fun x => some (x, h')) := by kernel_rfl
set_option maxRecDepth 100000 in
theorem corbellaw5_CoderAdds.told {C : FuncId → Bool} {X : CallF} (hX : XOk C X) (hK43 : KOk X 43) (k : Nat) : Den.Told Try.prog C X 12 [(.int .i64), (.int .i64)] [.bool] (fun a h => corbellaw5_CoderAdds.f k (a.1) (a.2) h) :=
  told_of fun a h q e => fn_of (c := corbellaw5_CoderAdds.body) (corbellaw5_CoderAdds.TS hX hK43 k) Try.func12 (by kernel_rfl) (hX.no 12 _ h (by decide))
    (by
      have e : need (corbellaw5_CoderAdds.an k) corbellaw5_CoderAdds.body 1 = [(Code.loop corbellaw5_CoderAdds.c1018, lrun [(5, .ptr), (6, .sl), (7, .sl), (8, .sl), (31, (.int .i64)), (32, (.int .i64))] none [] 0 (fun a h => corbellaw5_CoderAdds.l0 k k (a.1) (a.2.1) (a.2.2.1) (a.2.2.2.1) (a.2.2.2.2.1) (a.2.2.2.2.2) h)), (Code.loop corbellaw5_CoderAdds.c32762, lrun [(10, .sl), (12, .sl), (14, .sl), (92, (.int .i64)), (93, (.int .i64))] (some [(4, .bool)]) [] 2 (fun a h => corbellaw5_CoderAdds.l1 k k (a.1) (a.2.1) (a.2.2.1) (a.2.2.2.1) (a.2.2.2.2) h))] := by kernel_rfl
      rw [e]; intro q hq
      rcases List.mem_cons.1 hq with rfl | hq
      · exact corbellaw5_CoderAdds.l0_pass hX hK43 k k
      rcases List.mem_cons.1 hq with rfl | hq
      · exact corbellaw5_CoderAdds.l1_pass hX hK43 k k
      cases hq)
    ((corbellaw5_CoderAdds.eq k a h).symm.trans e)
/-! ### corbel/corbellaw5.CoderDeltas -/
noncomputable def corbellaw5_CoderDeltas.l2 (k : Nat) (n : Nat) : Sl → Sl → Sl → Int → Int → Int → H → Option (((Bool) ⊕ (Unit)) × H) :=
  Nat.rec (motive := fun _ => Sl → Sl → Sl → Int → Int → Int → H → Option (((Bool) ⊕ (Unit)) × H)) (fun _ _ _ _ _ _ _ => none) (fun _ ih x42 x43 x44 x45 x46 x47 h48 => cond (decide (x47 < x46))
      ((asP (ixs 1 x42.a x42.n (wrapA .i64 ((4 : Int) + x45)))).bind fun p49 =>
    (asS (ldc h48 p49)).bind fun s50 =>
    (asP (ixs 1 s50.a s50.n x47)).bind fun p51 =>
    (asI .u8 (ldc h48 p51)).bind fun n52 =>
    (asP (ixs 1 x43.a x43.n x45)).bind fun p53 =>
    (asS (ldc h48 p53)).bind fun s54 =>
    (asP (ixs 1 s54.a s54.n x47)).bind fun p55 =>
    (asI .u8 (ldc h48 p55)).bind fun n56 =>
    (asI .u8 (intA .xor .u8 n52 n56)).bind fun n57 =>
    (asP (ixs 1 x44.a x44.n (wrapA .i64 ((4 : Int) + x45)))).bind fun p58 =>
    (asS (ldc h48 p58)).bind fun s59 =>
    (asP (ixs 1 s59.a s59.n x47)).bind fun p60 =>
    (asI .u8 (ldc h48 p60)).bind fun n61 =>
    cond (n57 != n61)
      (some (Sum.inl false, h48))
      (ih x42 x43 x44 x45 x46 (wrapA .i64 (x47 + (1 : Int))) h48))
      (some (Sum.inr (), h48))) n
theorem corbellaw5_CoderDeltas.l2_zero (k : Nat) (x42 : Sl) (x43 : Sl) (x44 : Sl) (x45 : Int) (x46 : Int) (x47 : Int) (h48 : H) : corbellaw5_CoderDeltas.l2 k 0 x42 x43 x44 x45 x46 x47 h48 = none := rfl
theorem corbellaw5_CoderDeltas.l2_succ (k n : Nat) (x42 : Sl) (x43 : Sl) (x44 : Sl) (x45 : Int) (x46 : Int) (x47 : Int) (h48 : H) : corbellaw5_CoderDeltas.l2 k (n + 1) x42 x43 x44 x45 x46 x47 h48 = (cond (decide (x47 < x46))
      ((asP (ixs 1 x42.a x42.n (wrapA .i64 ((4 : Int) + x45)))).bind fun p49 =>
    (asS (ldc h48 p49)).bind fun s50 =>
    (asP (ixs 1 s50.a s50.n x47)).bind fun p51 =>
    (asI .u8 (ldc h48 p51)).bind fun n52 =>
    (asP (ixs 1 x43.a x43.n x45)).bind fun p53 =>
    (asS (ldc h48 p53)).bind fun s54 =>
    (asP (ixs 1 s54.a s54.n x47)).bind fun p55 =>
    (asI .u8 (ldc h48 p55)).bind fun n56 =>
    (asI .u8 (intA .xor .u8 n52 n56)).bind fun n57 =>
    (asP (ixs 1 x44.a x44.n (wrapA .i64 ((4 : Int) + x45)))).bind fun p58 =>
    (asS (ldc h48 p58)).bind fun s59 =>
    (asP (ixs 1 s59.a s59.n x47)).bind fun p60 =>
    (asI .u8 (ldc h48 p60)).bind fun n61 =>
    cond (n57 != n61)
      (some (Sum.inl false, h48))
      (corbellaw5_CoderDeltas.l2 k n x42 x43 x44 x45 x46 (wrapA .i64 (x47 + (1 : Int))) h48))
      (some (Sum.inr (), h48))) := rfl
noncomputable def corbellaw5_CoderDeltas.l1 (k : Nat) (n : Nat) : Sl → Sl → Sl → Int → H → Option (((Bool) ⊕ (Unit)) × H) :=
  Nat.rec (motive := fun _ => Sl → Sl → Sl → Int → H → Option (((Bool) ⊕ (Unit)) × H)) (fun _ _ _ _ _ => none) (fun _ ih x33 x34 x35 x36 h37 => cond (decide (x36 < (2 : Int)))
      ((asP (ixs 1 x34.a x34.n x36)).bind fun p38 =>
    (asS (ldc h37 p38)).bind fun s39 =>
    cond ((Int.ofNat s39.n) != (32 : Int))
      (some (Sum.inl false, h37))
      ((asP (ixs 1 x34.a x34.n x36)).bind fun p40 =>
    (asS (ldc h37 p40)).bind fun s41 =>
    (corbellaw5_CoderDeltas.l2 k k x33 x34 x35 x36 (Int.ofNat s41.n) (0 : Int) h37).bind fun w62 =>
    match w62.1 with
    | .inl r63 => some (Sum.inl r63, w62.2)
    | .inr o64 => ih x33 x34 x35 (wrapA .i64 (x36 + (1 : Int))) w62.2))
      (some (Sum.inr (), h37))) n
theorem corbellaw5_CoderDeltas.l1_zero (k : Nat) (x33 : Sl) (x34 : Sl) (x35 : Sl) (x36 : Int) (h37 : H) : corbellaw5_CoderDeltas.l1 k 0 x33 x34 x35 x36 h37 = none := rfl
theorem corbellaw5_CoderDeltas.l1_succ (k n : Nat) (x33 : Sl) (x34 : Sl) (x35 : Sl) (x36 : Int) (h37 : H) : corbellaw5_CoderDeltas.l1 k (n + 1) x33 x34 x35 x36 h37 = (cond (decide (x36 < (2 : Int)))
      ((asP (ixs 1 x34.a x34.n x36)).bind fun p38 =>
    (asS (ldc h37 p38)).bind fun s39 =>
    cond ((Int.ofNat s39.n) != (32 : Int))
      (some (Sum.inl false, h37))
      ((asP (ixs 1 x34.a x34.n x36)).bind fun p40 =>
    (asS (ldc h37 p40)).bind fun s41 =>
    (corbellaw5_CoderDeltas.l2 k k x33 x34 x35 x36 (Int.ofNat s41.n) (0 : Int) h37).bind fun w62 =>
    match w62.1 with
    | .inl r63 => some (Sum.inl r63, w62.2)
    | .inr o64 => corbellaw5_CoderDeltas.l1 k n x33 x34 x35 (wrapA .i64 (x36 + (1 : Int))) w62.2))
      (some (Sum.inr (), h37))) := rfl
noncomputable def corbellaw5_CoderDeltas.l0 (k : Nat) (n : Nat) : Sl → Sl → Sl → Int → Int → H → Option (((Bool) ⊕ (Unit)) × H) :=
  Nat.rec (motive := fun _ => Sl → Sl → Sl → Int → Int → H → Option (((Bool) ⊕ (Unit)) × H)) (fun _ _ _ _ _ _ => none) (fun _ ih x19 x20 x21 x22 x23 h24 => cond (decide (x23 < x22))
      ((asP (ixs 1 x19.a x19.n x23)).bind fun p25 =>
    (asS (ldc h24 p25)).bind fun s26 =>
    (cond ((Int.ofNat s26.n) != (32 : Int)) (some (true, h24))
      ((asP (ixs 1 x21.a x21.n x23)).bind fun p27 =>
    (asS (ldc h24 p27)).bind fun s28 =>
    some ((Int.ofNat s28.n) != (32 : Int), h24))).bind fun g29 =>
    cond g29.1
      (some (Sum.inl false, g29.2))
      (ih x19 x20 x21 x22 (wrapA .i64 (x23 + (1 : Int))) g29.2))
      (some (Sum.inr (), h24))) n
theorem corbellaw5_CoderDeltas.l0_zero (k : Nat) (x19 : Sl) (x20 : Sl) (x21 : Sl) (x22 : Int) (x23 : Int) (h24 : H) : corbellaw5_CoderDeltas.l0 k 0 x19 x20 x21 x22 x23 h24 = none := rfl
theorem corbellaw5_CoderDeltas.l0_succ (k n : Nat) (x19 : Sl) (x20 : Sl) (x21 : Sl) (x22 : Int) (x23 : Int) (h24 : H) : corbellaw5_CoderDeltas.l0 k (n + 1) x19 x20 x21 x22 x23 h24 = (cond (decide (x23 < x22))
      ((asP (ixs 1 x19.a x19.n x23)).bind fun p25 =>
    (asS (ldc h24 p25)).bind fun s26 =>
    (cond ((Int.ofNat s26.n) != (32 : Int)) (some (true, h24))
      ((asP (ixs 1 x21.a x21.n x23)).bind fun p27 =>
    (asS (ldc h24 p27)).bind fun s28 =>
    some ((Int.ofNat s28.n) != (32 : Int), h24))).bind fun g29 =>
    cond g29.1
      (some (Sum.inl false, g29.2))
      (corbellaw5_CoderDeltas.l0 k n x19 x20 x21 x22 (wrapA .i64 (x23 + (1 : Int))) g29.2))
      (some (Sum.inr (), h24))) := rfl
noncomputable def corbellaw5_CoderDeltas.f (k : Nat) (a0 : Int) (a1 : Int) (a2 : Int) (h : H) : Option ((Bool) × H) :=
  (coder_New.f k h).bind fun q1 =>
    (cond (!true) (some (true, q1.2))
      ((asB (binO1 Try.prog .eql 53 (Value.pointer q1.1) (Value.pointer none))).bind fun b2 =>
    some (b2, q1.2))).bind fun g3 =>
    cond g3.1
      (some (false, g3.2))
      ((corbelhand_Pick.f k a1 (4 : Int) g3.2).bind fun q4 =>
    (corbelhand_Bytes.f k a0 (128 : Int) q4.2).bind fun q5 =>
    (coder_Coder_Encode.f k q1.1 q5.1 q5.2).bind fun q6 =>
    (corbelhand_Bytes.f k a2 (32 : Int) q6.2).bind fun q7 =>
    (asS (subs 1 (Value.slice q5.1.a q5.1.n q5.1.c) (some (wrapA .i64 (q4.1 * (32 : Int)))) (some (wrapA .i64 ((wrapA .i64 (q4.1 + (1 : Int))) * (32 : Int)))))).bind fun s8 =>
    (coder_Coder_Delta.f k q1.1 q4.1 s8 q7.1 q7.2).bind fun q9 =>
    (asS2 (apv 5 1 1 (Value.slice (some ⟨q9.2.next, 0, none⟩) 0 0) (Value.slice q5.1.a q5.1.n q5.1.c) (newR q9.2 5 1 []))).bind fun q10 =>
    (asS (subs 1 (Value.slice q10.1.a q10.1.n q10.1.c) (some (wrapA .i64 (q4.1 * (32 : Int)))) none)).bind fun s11 =>
    (asI2 .i64 (cpy 1 (Value.slice s11.a s11.n s11.c) (Value.slice q7.1.a q7.1.n q7.1.c) q10.2)).bind fun q12 =>
    (coder_Coder_Encode.f k q1.1 q10.1 q12.2).bind fun q13 =>
    (cond (q6.1.2 != (0 : Int)) (some (true, q13.2))
      (some (q9.1.2 != (0 : Int), q13.2))).bind fun g14 =>
    (cond g14.1 (some (true, g14.2))
      (some (q13.1.2 != (0 : Int), g14.2))).bind fun g15 =>
    (cond g15.1 (some (true, g15.2))
      (some ((Int.ofNat q6.1.1.n) != (6 : Int), g15.2))).bind fun g16 =>
    (cond g16.1 (some (true, g16.2))
      (some ((Int.ofNat q13.1.1.n) != (6 : Int), g16.2))).bind fun g17 =>
    (cond g17.1 (some (true, g17.2))
      (some ((Int.ofNat q9.1.1.n) != (2 : Int), g17.2))).bind fun g18 =>
    cond g18.1
      (some (false, g18.2))
      ((corbellaw5_CoderDeltas.l0 k k q6.1.1 q9.1.1 q13.1.1 (Int.ofNat q6.1.1.n) (0 : Int) g18.2).bind fun w30 =>
    match w30.1 with
    | .inl r31 => some (r31, w30.2)
    | .inr o32 => (corbellaw5_CoderDeltas.l1 k k q6.1.1 q9.1.1 q13.1.1 (0 : Int) w30.2).bind fun w65 =>
    match w65.1 with
    | .inl r66 => some (r66, w65.2)
    | .inr o67 => some (true, w65.2)))
noncomputable def corbellaw5_CoderDeltas.T (k : Nat) : Tbl := tblOf [⟨42, anyArgs, wr [] [.ptr] (fun a h => coder_New.f k h)⟩,
  ⟨43, anyArgs, knownW⟩,
  ⟨36, anyArgs, wr [(.int .i64), (.int .i64)] [(.int .i64)] (fun a h => corbelhand_Pick.f k (a.1) (a.2) h)⟩,
  ⟨44, anyArgs, wr [(.int .i64), (.int .i64)] [.sl] (fun a h => corbelhand_Bytes.f k (a.1) (a.2) h)⟩,
  ⟨45, anyArgs, wr [.ptr, .sl] [.sl, (.int .i64)] (fun a h => coder_Coder_Encode.f k (a.1) (a.2) h)⟩,
  ⟨46, anyArgs, wr [.ptr, (.int .i64), .sl, .sl] [.sl, (.int .i64)] (fun a h => coder_Coder_Delta.f k (a.1) (a.2.1) (a.2.2.1) (a.2.2.2) h)⟩]
noncomputable def corbellaw5_CoderDeltas.an (k : Nat) (p : Nat) : Option Ann := cond (Nat.beq p 131066) (some (.pass [] (lrun [(9, .sl), (12, .sl), (15, .sl), (18, (.int .i64))] (some [(6, .bool)]) [] 2 (fun a h => corbellaw5_CoderDeltas.l1 k k (a.1) (a.2.1) (a.2.2.1) (a.2.2.2) h))))
  (cond (Nat.beq p 16776486) (some (.pass [9, 12, 15, 18] (lrun [(9, .sl), (12, .sl), (15, .sl), (18, (.int .i64)), (127, (.int .i64)), (128, (.int .i64))] (some [(6, .bool)]) [] 4 (fun a h => corbellaw5_CoderDeltas.l2 k k (a.1) (a.2.1) (a.2.2.1) (a.2.2.2.1) (a.2.2.2.2.1) (a.2.2.2.2.2) h))))
  (cond (Nat.beq p 65530) (some (.pass [9, 12, 15] (lrun [(9, .sl), (12, .sl), (15, .sl), (94, (.int .i64)), (95, (.int .i64))] (some [(6, .bool)]) [] 0 (fun a h => corbellaw5_CoderDeltas.l0 k k (a.1) (a.2.1) (a.2.2.1) (a.2.2.2.1) (a.2.2.2.2) h))))
  (none)))
noncomputable def corbellaw5_CoderDeltas.body : Code := (Try.f13.body).getD .skip
noncomputable def corbellaw5_CoderDeltas.c65530 : Code := cat corbellaw5_CoderDeltas.body [1, 1, 1, 1, 1, 1, 1, 1, 1, 1, 1, 1, 0, 1, 0, 0]
noncomputable def corbellaw5_CoderDeltas.c131066 : Code := cat corbellaw5_CoderDeltas.body [1, 1, 1, 1, 1, 1, 1, 1, 1, 1, 1, 1, 1, 0, 1, 0, 0]
noncomputable def corbellaw5_CoderDeltas.c16776486 : Code := cat corbellaw5_CoderDeltas.body [1, 1, 1, 1, 1, 1, 1, 1, 1, 1, 1, 1, 1, 0, 1, 0, 0, 1, 0, 0, 1, 1, 0, 0]
set_option maxRecDepth 100000 in
theorem corbellaw5_CoderDeltas.TS {C : FuncId → Bool} {X : CallF} (hX : XOk C X) (hK43 : KOk X 43) (k : Nat) : TblS Try.prog C X (corbellaw5_CoderDeltas.T k) := by
  refine tblOf_sound ?_
  intro e he
  rcases List.mem_cons.1 he with rfl | he
  · exact wr_told (coder_New.told hX k)
  rcases List.mem_cons.1 he with rfl | he
  · exact knownW_told hK43
  rcases List.mem_cons.1 he with rfl | he
  · exact wr_told (corbelhand_Pick.told hX k)
  rcases List.mem_cons.1 he with rfl | he
  · exact wr_told (corbelhand_Bytes.told hX k)
  rcases List.mem_cons.1 he with rfl | he
  · exact wr_told (coder_Coder_Encode.told hX k)
  rcases List.mem_cons.1 he with rfl | he
  · exact wr_told (coder_Coder_Delta.told hX k)
  exact absurd he List.not_mem_nil
set_option maxRecDepth 100000 in
theorem corbellaw5_CoderDeltas.l2_pass {C : FuncId → Bool} {X : CallF} (hX : XOk C X) (hK43 : KOk X 43) (k n : Nat) : PassS Try.prog C X 157 (.loop corbellaw5_CoderDeltas.c16776486) (lrun [(9, .sl), (12, .sl), (15, .sl), (18, (.int .i64)), (127, (.int .i64)), (128, (.int .i64))] (some [(6, .bool)]) [] 4 (fun a h => corbellaw5_CoderDeltas.l2 k n (a.1) (a.2.1) (a.2.2.1) (a.2.2.2.1) (a.2.2.2.2.1) (a.2.2.2.2.2) h)) :=
  loop_pass (ins := [(9, .sl), (12, .sl), (15, .sl), (18, (.int .i64)), (127, (.int .i64)), (128, (.int .i64))]) (rets := (some [(6, .bool)])) (outs := []) (id := 4) (tbl := corbellaw5_CoderDeltas.T k) (an := corbellaw5_CoderDeltas.an k) (pb := 33552972) (corbellaw5_CoderDeltas.TS hX hK43 k) (fun n => (fun a h => corbellaw5_CoderDeltas.l2 k n (a.1) (a.2.1) (a.2.2.1) (a.2.2.2.1) (a.2.2.2.2.1) (a.2.2.2.2.2) h)) (fun a h => rfl) (fun n a h => by kernel_rfl)
    (by
      have e : need (corbellaw5_CoderDeltas.an k) corbellaw5_CoderDeltas.c16776486 33552972 = [] := by kernel_rfl
      rw [e]; intro q hq; cases hq) n
set_option maxRecDepth 100000 in
theorem corbellaw5_CoderDeltas.l1_pass {C : FuncId → Bool} {X : CallF} (hX : XOk C X) (hK43 : KOk X 43) (k n : Nat) : PassS Try.prog C X 157 (.loop corbellaw5_CoderDeltas.c131066) (lrun [(9, .sl), (12, .sl), (15, .sl), (18, (.int .i64))] (some [(6, .bool)]) [] 2 (fun a h => corbellaw5_CoderDeltas.l1 k n (a.1) (a.2.1) (a.2.2.1) (a.2.2.2) h)) :=
  loop_pass (ins := [(9, .sl), (12, .sl), (15, .sl), (18, (.int .i64))]) (rets := (some [(6, .bool)])) (outs := []) (id := 2) (tbl := corbellaw5_CoderDeltas.T k) (an := corbellaw5_CoderDeltas.an k) (pb := 262132) (corbellaw5_CoderDeltas.TS hX hK43 k) (fun n => (fun a h => corbellaw5_CoderDeltas.l1 k n (a.1) (a.2.1) (a.2.2.1) (a.2.2.2) h)) (fun a h => rfl) (fun n a h => by kernel_rfl)
    (by
      have e : need (corbellaw5_CoderDeltas.an k) corbellaw5_CoderDeltas.c131066 262132 = [(Code.loop corbellaw5_CoderDeltas.c16776486, lrun [(9, .sl), (12, .sl), (15, .sl), (18, (.int .i64)), (127, (.int .i64)), (128, (.int .i64))] (some [(6, .bool)]) [] 4 (fun a h => corbellaw5_CoderDeltas.l2 k k (a.1) (a.2.1) (a.2.2.1) (a.2.2.2.1) (a.2.2.2.2.1) (a.2.2.2.2.2) h))] := by kernel_rfl
      rw [e]; intro q hq
      rcases List.mem_cons.1 hq with rfl | hq
      · exact corbellaw5_CoderDeltas.l2_pass hX hK43 k k
      cases hq) n
set_option maxRecDepth 100000 in
theorem corbellaw5_CoderDeltas.l0_pass {C : FuncId → Bool} {X : CallF} (hX : XOk C X) (hK43 : KOk X 43) (k n : Nat) : PassS Try.prog C X 157 (.loop corbellaw5_CoderDeltas.c65530) (lrun [(9, .sl), (12, .sl), (15, .sl), (94, (.int .i64)), (95, (.int .i64))] (some [(6, .bool)]) [] 0 (fun a h => corbellaw5_CoderDeltas.l0 k n (a.1) (a.2.1) (a.2.2.1) (a.2.2.2.1) (a.2.2.2.2) h)) :=
  loop_pass (ins := [(9, .sl), (12, .sl), (15, .sl), (94, (.int .i64)), (95, (.int .i64))]) (rets := (some [(6, .bool)])) (outs := []) (id := 0) (tbl := corbellaw5_CoderDeltas.T k) (an := corbellaw5_CoderDeltas.an k) (pb := 131060) (corbellaw5_CoderDeltas.TS hX hK43 k) (fun n => (fun a h => corbellaw5_CoderDeltas.l0 k n (a.1) (a.2.1) (a.2.2.1) (a.2.2.2.1) (a.2.2.2.2) h)) (fun a h => rfl) (fun n a h => by kernel_rfl)
    (by
      have e : need (corbellaw5_CoderDeltas.an k) corbellaw5_CoderDeltas.c65530 131060 = [] := by kernel_rfl
      rw [e]; intro q hq; cases hq) n
set_option maxRecDepth 100000 in
theorem corbellaw5_CoderDeltas.eq (k : Nat) (a : RT [(.int .i64), (.int .i64), (.int .i64)]) (h : H) : (fun a h => corbellaw5_CoderDeltas.f k (a.1) (a.2.1) (a.2.2) h) a h = kfun Try.prog (corbellaw5_CoderDeltas.T k) (corbellaw5_CoderDeltas.an k) (RT [.bool] × H) Try.f13 (encL [(.int .i64), (.int .i64), (.int .i64)] a) h (fun vs h' => (decL [.bool] vs).bind fun x => some (x, h')) := by kernel_rfl
set_option maxRecDepth 100000 in
theorem corbellaw5_CoderDeltas.told {C : FuncId → Bool} {X : CallF} (hX : XOk C X) (hK43 : KOk X 43) (k : Nat) : Den.Told Try.prog C X 13 [(.int .i64), (.int .i64), (.int .i64)] [.bool] (fun a h => corbellaw5_CoderDeltas.f k (a.1) (a.2.1) (a.2.2) h) :=
  told_of fun a h q e => fn_of (c := corbellaw5_CoderDeltas.body) (corbellaw5_CoderDeltas.TS hX hK43 k) Try.func13 (by kernel_rfl) (hX.no 13 _ h (by decide))
    (by
      have e : need (corbellaw5_CoderDeltas.an k) corbellaw5_CoderDeltas.body 1 = [(Code.loop corbellaw5_CoderDeltas.c65530, lrun [(9, .sl), (12, .sl), (15, .sl), (94, (.int .i64)), (95, (.int .i64))] (some [(6, .bool)]) [] 0 (fun a h => corbellaw5_CoderDeltas.l0 k k (a.1) (a.2.1) (a.2.2.1) (a.2.2.2.1) (a.2.2.2.2) h)), (Code.loop corbellaw5_CoderDeltas.c131066, lrun [(9, .sl), (12, .sl), (15, .sl), (18, (.int .i64))] (some [(6, .bool)]) [] 2 (fun a h => corbellaw5_CoderDeltas.l1 k k (a.1) (a.2.1) (a.2.2.1) (a.2.2.2) h))] := by kernel_rfl
      rw [e]; intro q hq
      rcases List.mem_cons.1 hq with rfl | hq
      · exact corbellaw5_CoderDeltas.l0_pass hX hK43 k k
      rcases List.mem_cons.1 hq with rfl | hq
      · exact corbellaw5_CoderDeltas.l1_pass hX hK43 k k
      cases hq)
    ((corbellaw5_CoderDeltas.eq k a h).symm.trans e)
/-! ### corbel/corbellaw5.CoderBack -/
noncomputable def corbellaw5_CoderBack.f (k : Nat) (a0 : Int) (a1 : Int) (a2 : Int) (h : H) : Option ((Bool) × H) :=
  (coder_New.f k h).bind fun q1 =>
    (cond (!true) (some (true, q1.2))
      ((asB (binO1 Try.prog .eql 53 (Value.pointer q1.1) (Value.pointer none))).bind fun b2 =>
    some (b2, q1.2))).bind fun g3 =>
    cond g3.1
      (some (false, g3.2))
      ((corbelhand_Bytes.f k a0 (128 : Int) g3.2).bind fun q4 =>
    (coder_Coder_Encode.f k q1.1 q4.1 q4.2).bind fun q5 =>
    (cond (q5.1.2 != (0 : Int)) (some (true, q5.2))
      (some ((Int.ofNat q5.1.1.n) != (6 : Int), q5.2))).bind fun g6 =>
    (cond g6.1 (some (true, g6.2))
      ((coder_Coder_Check.f k q1.1 q5.1.1 g6.2).bind fun q7 =>
    some (!q7.1, q7.2))).bind fun g8 =>
    cond g8.1
      (some (false, g8.2))
      ((asS2 (apv 40 1 24 (Value.slice (some ⟨g8.2.next, 0, none⟩) 0 0) (Value.slice q5.1.1.a q5.1.1.n q5.1.1.c) (newR g8.2 40 1 []))).bind fun q9 =>
    (corbelhand_Pick.f k a1 (6 : Int) q9.2).bind fun q10 =>
    (asP (ixs 1 q9.1.a q9.1.n q10.1)).bind fun p11 =>
    (stv 1 q10.2 p11 [(Value.slice none 0 0)]).bind fun q12 =>
    (corbelhand_Pick.f k a2 (6 : Int) q12.2).bind fun q13 =>
    (asP (ixs 1 q9.1.a q9.1.n q13.1)).bind fun p14 =>
    (stv 1 q13.2 p14 [(Value.slice none 0 0)]).bind fun q15 =>
    (coder_Coder_Decode.f k q1.1 q9.1 q15.2).bind fun q16 =>
    (cond q16.1.2 ((asT (txt q16.2 (Value.slice q16.1.1.a q16.1.1.n q16.1.1.c))).bind fun s17 =>
    (asT (txt q16.2 (Value.slice q4.1.a q4.1.n q4.1.c))).bind fun s18 =>
    some (s17.toList == s18.toList, q16.2))
      (some (false, q16.2))).bind fun g19 =>
    some (g19.1, g19.2)))
noncomputable def corbellaw5_CoderBack.T (k : Nat) : Tbl := tblOf [⟨42, anyArgs, wr [] [.ptr] (fun a h => coder_New.f k h)⟩,
  ⟨43, anyArgs, knownW⟩,
  ⟨44, anyArgs, wr [(.int .i64), (.int .i64)] [.sl] (fun a h => corbelhand_Bytes.f k (a.1) (a.2) h)⟩,
  ⟨45, anyArgs, wr [.ptr, .sl] [.sl, (.int .i64)] (fun a h => coder_Coder_Encode.f k (a.1) (a.2) h)⟩,
  ⟨51, anyArgs, wr [.ptr, .sl] [.bool] (fun a h => coder_Coder_Check.f k (a.1) (a.2) h)⟩,
  ⟨36, anyArgs, wr [(.int .i64), (.int .i64)] [(.int .i64)] (fun a h => corbelhand_Pick.f k (a.1) (a.2) h)⟩,
  ⟨49, anyArgs, wr [.ptr, .sl] [.sl, .bool] (fun a h => coder_Coder_Decode.f k (a.1) (a.2) h)⟩]
noncomputable def corbellaw5_CoderBack.an (k : Nat) (p : Nat) : Option Ann := none
noncomputable def corbellaw5_CoderBack.body : Code := (Try.f15.body).getD .skip
set_option maxRecDepth 100000 in
theorem corbellaw5_CoderBack.TS {C : FuncId → Bool} {X : CallF} (hX : XOk C X) (hK43 : KOk X 43) (k : Nat) : TblS Try.prog C X (corbellaw5_CoderBack.T k) := by
  refine tblOf_sound ?_
  intro e he
  rcases List.mem_cons.1 he with rfl | he
  · exact wr_told (coder_New.told hX k)
  rcases List.mem_cons.1 he with rfl | he
  · exact knownW_told hK43
  rcases List.mem_cons.1 he with rfl | he
  · exact wr_told (corbelhand_Bytes.told hX k)
  rcases List.mem_cons.1 he with rfl | he
  · exact wr_told (coder_Coder_Encode.told hX k)
  rcases List.mem_cons.1 he with rfl | he
  · exact wr_told (coder_Coder_Check.told hX k)
  rcases List.mem_cons.1 he with rfl | he
  · exact wr_told (corbelhand_Pick.told hX k)
  rcases List.mem_cons.1 he with rfl | he
  · exact wr_told (coder_Coder_Decode.told hX k)
  exact absurd he List.not_mem_nil
set_option maxRecDepth 100000 in
theorem corbellaw5_CoderBack.eq (k : Nat) (a : RT [(.int .i64), (.int .i64), (.int .i64)]) (h : H) : (fun a h => corbellaw5_CoderBack.f k (a.1) (a.2.1) (a.2.2) h) a h = kfun Try.prog (corbellaw5_CoderBack.T k) (corbellaw5_CoderBack.an k) (RT [.bool] × H) Try.f15 (encL [(.int .i64), (.int .i64), (.int .i64)] a) h (fun vs h' => (decL [.bool] vs).bind fun x => some (x, h')) := by kernel_rfl
set_option maxRecDepth 100000 in
theorem corbellaw5_CoderBack.told {C : FuncId → Bool} {X : CallF} (hX : XOk C X) (hK43 : KOk X 43) (k : Nat) : Den.Told Try.prog C X 15 [(.int .i64), (.int .i64), (.int .i64)] [.bool] (fun a h => corbellaw5_CoderBack.f k (a.1) (a.2.1) (a.2.2) h) :=
  told_of fun a h q e => fn_of (c := corbellaw5_CoderBack.body) (corbellaw5_CoderBack.TS hX hK43 k) Try.func15 (by kernel_rfl) (hX.no 15 _ h (by decide))
    (by
      have e : need (corbellaw5_CoderBack.an k) corbellaw5_CoderBack.body 1 = [] := by kernel_rfl
      rw [e]; intro q hq; cases hq)
    ((corbellaw5_CoderBack.eq k a h).symm.trans e)
/-! ### corbel/corbellaw5.CoderChecks -/
noncomputable def corbellaw5_CoderChecks.f (k : Nat) (a0 : Int) (a1 : Int) (a2 : Int) (a3 : Int) (h : H) : Option ((Bool) × H) :=
  (coder_New.f k h).bind fun q1 =>
    (cond (!true) (some (true, q1.2))
      ((asB (binO1 Try.prog .eql 53 (Value.pointer q1.1) (Value.pointer none))).bind fun b2 =>
    some (b2, q1.2))).bind fun g3 =>
    cond g3.1
      (some (false, g3.2))
      ((corbelhand_Bytes.f k a0 (128 : Int) g3.2).bind fun q4 =>
    (coder_Coder_Encode.f k q1.1 q4.1 q4.2).bind fun q5 =>
    (cond (q5.1.2 != (0 : Int)) (some (true, q5.2))
      (some ((Int.ofNat q5.1.1.n) != (6 : Int), q5.2))).bind fun g6 =>
    cond g6.1
      (some (false, g6.2))
      ((corbelhand_Pick.f k a1 (6 : Int) g6.2).bind fun q7 =>
    (asP (ixs 1 q5.1.1.a q5.1.1.n q7.1)).bind fun p8 =>
    (asS (ldc q7.2 p8)).bind fun s9 =>
    cond ((Int.ofNat s9.n) != (32 : Int))
      (some (false, q7.2))
      ((asS2 (apv 40 1 24 (Value.slice (some ⟨q7.2.next, 0, none⟩) 0 0) (Value.slice q5.1.1.a q5.1.1.n q5.1.1.c) (newR q7.2 40 1 []))).bind fun q10 =>
    (asP (ixs 1 q5.1.1.a q5.1.1.n q7.1)).bind fun p11 =>
    (asS (ldc (newR q10.2 5 1 []) p11)).bind fun s12 =>
    (asS2 (apv 5 1 1 (Value.slice (some ⟨q10.2.next, 0, none⟩) 0 0) (Value.slice s12.a s12.n s12.c) (newR q10.2 5 1 []))).bind fun q13 =>
    (asP (ixs 1 q10.1.a q10.1.n q7.1)).bind fun p14 =>
    (stv 1 q13.2 p14 [(Value.slice q13.1.a q13.1.n q13.1.c)]).bind fun q15 =>
    (asP (ixs 1 q10.1.a q10.1.n q7.1)).bind fun p16 =>
    (asS (ldc q15.2 p16)).bind fun s17 =>
    (corbelhand_Pick.f k a2 (32 : Int) q15.2).bind fun q18 =>
    (asP (ixs 1 s17.a s17.n q18.1)).bind fun p19 =>
    (asI .u8 (ldc q18.2 p19)).bind fun n20 =>
    (asI .u8 (intA .xor .u8 n20 a3)).bind fun n21 =>
    (asP (ixs 1 s17.a s17.n q18.1)).bind fun p22 =>
    (stv 1 q18.2 p22 [(Value.int .u8 n21)]).bind fun q23 =>
    cond (same1 q15.2 q18.2 (some (Value.pointer p16)) && (true)) ((coder_Coder_Check.f k q1.1 q10.1 q23.2).bind fun q24 =>
    cond (!(q24.1 == (a3 == (0 : Int))))
      (some (false, q24.2))
      ((asP (ixs 1 q10.1.a q10.1.n q7.1)).bind fun p25 =>
    (stv 1 q24.2 p25 [(Value.slice none 0 0)]).bind fun q26 =>
    (coder_Coder_Decode.f k q1.1 q10.1 q26.2).bind fun q27 =>
    (cond q27.1.2 ((asT (txt q27.2 (Value.slice q27.1.1.a q27.1.1.n q27.1.1.c))).bind fun s28 =>
    (asT (txt q27.2 (Value.slice q4.1.a q4.1.n q4.1.c))).bind fun s29 =>
    some (s28.toList == s29.toList, q27.2))
      (some (false, q27.2))).bind fun g30 =>
    (cond g30.1 ((coder_Coder_Check.f k q1.1 q10.1 g30.2).bind fun q31 =>
    some (!q31.1, q31.2))
      (some (false, g30.2))).bind fun g32 =>
    some (g32.1, g32.2))) none)))
noncomputable def corbellaw5_CoderChecks.T (k : Nat) : Tbl := tblOf [⟨42, anyArgs, wr [] [.ptr] (fun a h => coder_New.f k h)⟩,
  ⟨43, anyArgs, knownW⟩,
  ⟨44, anyArgs, wr [(.int .i64), (.int .i64)] [.sl] (fun a h => corbelhand_Bytes.f k (a.1) (a.2) h)⟩,
  ⟨45, anyArgs, wr [.ptr, .sl] [.sl, (.int .i64)] (fun a h => coder_Coder_Encode.f k (a.1) (a.2) h)⟩,
  ⟨36, anyArgs, wr [(.int .i64), (.int .i64)] [(.int .i64)] (fun a h => corbelhand_Pick.f k (a.1) (a.2) h)⟩,
  ⟨51, anyArgs, wr [.ptr, .sl] [.bool] (fun a h => coder_Coder_Check.f k (a.1) (a.2) h)⟩,
  ⟨49, anyArgs, wr [.ptr, .sl] [.sl, .bool] (fun a h => coder_Coder_Decode.f k (a.1) (a.2) h)⟩]
noncomputable def corbellaw5_CoderChecks.an (k : Nat) (p : Nat) : Option Ann := none
noncomputable def corbellaw5_CoderChecks.body : Code := (Try.f16.body).getD .skip
set_option maxRecDepth 100000 in
theorem corbellaw5_CoderChecks.TS {C : FuncId → Bool} {X : CallF} (hX : XOk C X) (hK43 : KOk X 43) (k : Nat) : TblS Try.prog C X (corbellaw5_CoderChecks.T k) := by
  refine tblOf_sound ?_
  intro e he
  rcases List.mem_cons.1 he with rfl | he
  · exact wr_told (coder_New.told hX k)
  rcases List.mem_cons.1 he with rfl | he
  · exact knownW_told hK43
  rcases List.mem_cons.1 he with rfl | he
  · exact wr_told (corbelhand_Bytes.told hX k)
  rcases List.mem_cons.1 he with rfl | he
  · exact wr_told (coder_Coder_Encode.told hX k)
  rcases List.mem_cons.1 he with rfl | he
  · exact wr_told (corbelhand_Pick.told hX k)
  rcases List.mem_cons.1 he with rfl | he
  · exact wr_told (coder_Coder_Check.told hX k)
  rcases List.mem_cons.1 he with rfl | he
  · exact wr_told (coder_Coder_Decode.told hX k)
  exact absurd he List.not_mem_nil
set_option maxRecDepth 100000 in
theorem corbellaw5_CoderChecks.eq (k : Nat) (a : RT [(.int .i64), (.int .i64), (.int .i64), (.int .u8)]) (h : H) : (fun a h => corbellaw5_CoderChecks.f k (a.1) (a.2.1) (a.2.2.1) (a.2.2.2) h) a h = kfun Try.prog (corbellaw5_CoderChecks.T k) (corbellaw5_CoderChecks.an k) (RT [.bool] × H) Try.f16 (encL [(.int .i64), (.int .i64), (.int .i64), (.int .u8)] a) h (fun vs h' => (decL [.bool] vs).bind fun x => some (x, h')) := by kernel_rfl
set_option maxRecDepth 100000 in
theorem corbellaw5_CoderChecks.told {C : FuncId → Bool} {X : CallF} (hX : XOk C X) (hK43 : KOk X 43) (k : Nat) : Den.Told Try.prog C X 16 [(.int .i64), (.int .i64), (.int .i64), (.int .u8)] [.bool] (fun a h => corbellaw5_CoderChecks.f k (a.1) (a.2.1) (a.2.2.1) (a.2.2.2) h) :=
  told_of fun a h q e => fn_of (c := corbellaw5_CoderChecks.body) (corbellaw5_CoderChecks.TS hX hK43 k) Try.func16 (by kernel_rfl) (hX.no 16 _ h (by decide))
    (by
      have e : need (corbellaw5_CoderChecks.an k) corbellaw5_CoderChecks.body 1 = [] := by kernel_rfl
      rw [e]; intro q hq; cases hq)
    ((corbellaw5_CoderChecks.eq k a h).symm.trans e)
end Go.Proofs.Ytnjeafdbifcfhaa.Fwd
