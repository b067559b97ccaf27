/- Forward runs of functions of the program, printed by a program of this session: each function on plain values and memory, and that the code comes to it. No condition. -/
import Derived.Test.YtnjeafdbifcfhaaDenZ
import Derived.KernelRfl
import Derived.Test.YtnjeafdbifcfhaaPbFCod
import Derived.Test.YtnjeafdbifcfhaaPbFF
import Derived.Test.YtnjeafdbifcfhaaPbFMat
namespace Go.Proofs.Ytnjeafdbifcfhaa.Fwd
open Go Den
set_option linter.unusedVariables false
/-! ### corbel/corbellaw5.known -/
noncomputable def corbellaw5_known.f (k : Nat) (h : H) : Option ((Bool) × H) :=
  (coder_New.f k h).bind fun q1 =>
    (asB (binO1 Try.prog .eql 53 (Value.pointer q1.1) (Value.pointer none))).bind fun b2 =>
    cond b2
      (some (false, q1.2))
      ((asP (ixs 1 (some ⟨q1.2.next, 0, none⟩) 128 (32 : Int))).bind fun p3 =>
    (stv 1 (newZ q1.2 5 1 [(Value.int .u8 (0 : Int))] 128) p3 [(Value.int .u8 (1 : Int))]).bind fun q4 =>
    (coder_Coder_Encode.f k q1.1 (⟨(some ⟨q1.2.next, 0, none⟩), 128, 128⟩ : Sl) q4.2).bind fun q5 =>
    (cond (q5.1.2 != (0 : Int)) (some (true, q5.2))
      (some ((Int.ofNat q5.1.1.n) != (6 : Int), q5.2))).bind fun g6 =>
    (cond g6.1 (some (true, g6.2))
      ((asP (ixs 1 q5.1.1.a q5.1.1.n (4 : Int))).bind fun p7 =>
    (asS (ldc g6.2 p7)).bind fun s8 =>
    some ((Int.ofNat s8.n) != (32 : Int), g6.2))).bind fun g9 =>
    (cond g9.1 (some (true, g9.2))
      ((asP (ixs 1 q5.1.1.a q5.1.1.n (5 : Int))).bind fun p10 =>
    (asS (ldc g9.2 p10)).bind fun s11 =>
    some ((Int.ofNat s11.n) != (32 : Int), g9.2))).bind fun g12 =>
    cond g12.1
      (some (false, g12.2))
      ((asP (ixs 1 q5.1.1.a q5.1.1.n (2 : Int))).bind fun p13 =>
    (asS (ldc g12.2 p13)).bind fun s14 =>
    (asP (ixs 1 q5.1.1.a q5.1.1.n (3 : Int))).bind fun p15 =>
    (asS (ldc g12.2 p15)).bind fun s16 =>
    (asP (ixs 1 q5.1.1.a q5.1.1.n (4 : Int))).bind fun p17 =>
    (asS (ldc g12.2 p17)).bind fun s18 =>
    (asP (ixs 1 q5.1.1.a q5.1.1.n (5 : Int))).bind fun p19 =>
    (asS (ldc g12.2 p19)).bind fun s20 =>
    (coder_Coder_Decode.f k q1.1 (⟨(some ⟨g12.2.next, 0, none⟩), 6, 6⟩ : Sl) (newR g12.2 40 1 [(Value.slice none 0 0), (Value.slice none 0 0), (Value.slice s14.a s14.n s14.c), (Value.slice s16.a s16.n s16.c), (Value.slice s18.a s18.n s18.c), (Value.slice s20.a s20.n s20.c)])).bind fun q21 =>
    (asP (ixs 1 q5.1.1.a q5.1.1.n (4 : Int))).bind fun p22 =>
    (asS (ldc q21.2 p22)).bind fun s23 =>
    (asP (ixs 1 s23.a s23.n (0 : Int))).bind fun p24 =>
    (asI .u8 (ldc q21.2 p24)).bind fun n25 =>
    (cond (n25 == (1 : Int)) ((asP (ixs 1 q5.1.1.a q5.1.1.n (5 : Int))).bind fun p26 =>
    (asS (ldc q21.2 p26)).bind fun s27 =>
    (asP (ixs 1 s27.a s27.n (0 : Int))).bind fun p28 =>
    (asI .u8 (ldc q21.2 p28)).bind fun n29 =>
    some (n29 == (2 : Int), q21.2))
      (some (false, q21.2))).bind fun g30 =>
    (cond g30.1 ((asP (ixs 1 q5.1.1.a q5.1.1.n (5 : Int))).bind fun p31 =>
    (asS (ldc g30.2 p31)).bind fun s32 =>
    (asP (ixs 1 s32.a s32.n (1 : Int))).bind fun p33 =>
    (asI .u8 (ldc g30.2 p33)).bind fun n34 =>
    some (n34 == (0 : Int), g30.2))
      (some (false, g30.2))).bind fun g35 =>
    (cond g35.1 (some (q21.1.2, g35.2))
      (some (false, g35.2))).bind fun g36 =>
    (cond g36.1 ((asT (txt g36.2 (Value.slice q21.1.1.a q21.1.1.n q21.1.1.c))).bind fun s37 =>
    (asT (txt g36.2 (Value.slice (some ⟨q1.2.next, 0, none⟩) 128 128))).bind fun s38 =>
    some (s37.toList == s38.toList, g36.2))
      (some (false, g36.2))).bind fun g39 =>
    some (g39.1, g39.2)))
noncomputable def corbellaw5_known.T (k : Nat) : Tbl := tblOf [⟨42, anyArgs, wr [] [.ptr] (fun a h => coder_New.f k h)⟩,
  ⟨45, anyArgs, wr [.ptr, .sl] [.sl, (.int .i64)] (fun a h => coder_Coder_Encode.f k (a.1) (a.2) h)⟩,
  ⟨49, anyArgs, wr [.ptr, .sl] [.sl, .bool] (fun a h => coder_Coder_Decode.f k (a.1) (a.2) h)⟩]
noncomputable def corbellaw5_known.an (k : Nat) (p : Nat) : Option Ann := none
noncomputable def corbellaw5_known.body : Code := (Try.f43.body).getD .skip
set_option maxRecDepth 100000 in
theorem corbellaw5_known.TS {C : FuncId → Bool} {X : CallF} (hX : XOk C X) (k : Nat) : TblS Try.prog C X (corbellaw5_known.T k) := by
  refine tblOf_sound ?_
  intro e he
  rcases List.mem_cons.1 he with rfl | he
  · exact wr_told (coder_New.told hX k)
  rcases List.mem_cons.1 he with rfl | he
  · exact wr_told (coder_Coder_Encode.told hX k)
  rcases List.mem_cons.1 he with rfl | he
  · exact wr_told (coder_Coder_Decode.told hX k)
  exact absurd he List.not_mem_nil
set_option maxRecDepth 100000 in
theorem corbellaw5_known.eq (k : Nat) (a : RT []) (h : H) : (fun a h => corbellaw5_known.f k h) a h = kfun Try.prog (corbellaw5_known.T k) (corbellaw5_known.an k) (RT [.bool] × H) Try.f43 (encL [] a) h (fun vs h' => (decL [.bool] vs).bind fun x => some (x, h')) := by kernel_rfl
set_option maxRecDepth 100000 in
theorem corbellaw5_known.told {C : FuncId → Bool} {X : CallF} (hX : XOk C X) (h0 : ∀ args h, X 43 args h = none) (k : Nat) : Den.Told Try.prog C X 43 [] [.bool] (fun a h => corbellaw5_known.f k h) :=
  told_of fun a h q e => fn_of (c := corbellaw5_known.body) (corbellaw5_known.TS hX k) Try.func43 (by kernel_rfl) (h0 _ h)
    (by
      have e : need (corbellaw5_known.an k) corbellaw5_known.body 1 = [] := by kernel_rfl
      rw [e]; intro q hq; cases hq)
    ((corbellaw5_known.eq k a h).symm.trans e)
end Go.Proofs.Ytnjeafdbifcfhaa.Fwd
