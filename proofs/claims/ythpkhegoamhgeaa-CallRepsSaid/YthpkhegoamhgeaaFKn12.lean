/- Forward runs of functions of the program, printed by a program of this session: each function on plain values and memory, and that the code comes to it. No condition. -/
import Derived.Test.YthpkhegoamhgeaaDenZ
import Derived.KernelRfl
import Derived.Test.YthpkhegoamhgeaaFAsk
namespace Go.Proofs.Ythpkhegoamhgeaa.Fwd
open Go Den
set_option linter.unusedVariables false
/-! ### corbel/ask.Reply -/
noncomputable def ask_Reply.f (k : Nat) (a0 : Int) (a1 : Int) (a2 : Sl) (h : H) : Option ((Sl) × H) :=
  (cond (a0 != (0 : Int))
      (some ((⟨none, 0, 0⟩ : Sl), h))
      (some (a2, h)) : Option ((Sl) × H)).bind fun j1 =>
    (ask_bytes.f k (1732535960 : Int) (4 : Int) j1.2).bind fun q2 =>
    (ask_bytes.f k (wrapA .u64 a0) (4 : Int) q2.2).bind fun q3 =>
    (ask_bytes.f k a1 (8 : Int) q3.2).bind fun q4 =>
    (slices_Concat_byte_byte.f k (⟨(some ⟨q4.2.next, 0, none⟩), 4, 4⟩ : Sl) (newR q4.2 25 1 [(Value.slice q2.1.a q2.1.n q2.1.c), (Value.slice q3.1.a q3.1.n q3.1.c), (Value.slice q4.1.a q4.1.n q4.1.c), (Value.slice j1.1.a j1.1.n j1.1.c)])).bind fun q5 =>
    some (q5.1, q5.2)
noncomputable def ask_Reply.T (k : Nat) : Tbl := tblOf [⟨41, anyArgs, wr [(.int .u64), (.int .i64)] [.sl] (fun a h => ask_bytes.f k (a.1) (a.2) h)⟩,
  ⟨40, anyArgs, wr [.sl] [.sl] (fun a h => slices_Concat_byte_byte.f k a h)⟩]
noncomputable def ask_Reply.an (k : Nat) (p : Nat) : Option Ann := cond (Nat.beq p 13) (some (.join [0, 1] none [(2, .sl)]))
  (none)
noncomputable def ask_Reply.body : Code := (Try.f19.body).getD .skip
set_option maxRecDepth 100000 in
theorem ask_Reply.TS {C : FuncId → Bool} {X : CallF} (hX : XOk C X) (k : Nat) : TblS Try.prog C X (ask_Reply.T k) := by
  refine tblOf_sound ?_
  intro e he
  rcases List.mem_cons.1 he with rfl | he
  · exact wr_told (ask_bytes.told hX k)
  rcases List.mem_cons.1 he with rfl | he
  · exact wr_told (slices_Concat_byte_byte.told hX k)
  exact absurd he List.not_mem_nil
set_option maxRecDepth 100000 in
theorem ask_Reply.eq (k : Nat) (a : RT [(.int .i64), (.int .u64), .sl]) (h : H) : (fun a h => ask_Reply.f k (a.1) (a.2.1) (a.2.2) h) a h = kfun Try.prog (ask_Reply.T k) (ask_Reply.an k) (RT [.sl] × H) Try.f19 (encL [(.int .i64), (.int .u64), .sl] a) h (fun vs h' => (decL [.sl] vs).bind fun x => some (x, h')) := by kernel_rfl
set_option maxRecDepth 100000 in
theorem ask_Reply.told {C : FuncId → Bool} {X : CallF} (hX : XOk C X) (k : Nat) : Den.Told Try.prog C X 19 [(.int .i64), (.int .u64), .sl] [.sl] (fun a h => ask_Reply.f k (a.1) (a.2.1) (a.2.2) h) :=
  told_of fun a h q e => fn_of (c := ask_Reply.body) (ask_Reply.TS hX k) Try.func19 (by kernel_rfl) (hX.no 19 _ h (by decide))
    (by
      have e : need (ask_Reply.an k) ask_Reply.body 1 = [] := by kernel_rfl
      rw [e]; intro q hq; cases hq)
    ((ask_Reply.eq k a h).symm.trans e)
/-! ### corbel/corbellaw24.known -/
noncomputable def corbellaw24_known.f (k : Nat) (h : H) : Option ((Bool) × H) :=
  (ask_Reply.f k (22 : Int) (5 : Int) (⟨(some ⟨h.next, 0, none⟩), 1, 1⟩ : Sl) (newR h 5 1 [(Value.int .u8 (1 : Int))])).bind fun q1 =>
    (asS2 (cvs (newR q1.2 5 1 [(Value.int .u8 (97 : Int)), (Value.int .u8 (98 : Int))]) (Value.slice (some ⟨q1.2.next, 0, none⟩) 2 2))).bind fun q2 =>
    (ask_Lay.f k ((0 : Int), (1 : Int), (9 : Int), (16 : Int), (2 : Int), q2.1) q2.2).bind fun q3 =>
    (ask_Next.f k q3.1 q3.2).bind fun q4 =>
    (stv 6 (newR q4.2 29 6 [(Value.int .i64 (0 : Int)), (Value.int .i64 (0 : Int)), (Value.int .u64 (0 : Int)), (Value.int .u64 (0 : Int)), (Value.int .i64 (0 : Int)), (Value.slice none 0 0)]) (some ⟨q4.2.next, 0, none⟩) [(Value.int .i64 q4.1.1.1), (Value.int .i64 q4.1.1.2.1), (Value.int .u64 q4.1.1.2.2.1), (Value.int .u64 q4.1.1.2.2.2.1), (Value.int .i64 q4.1.1.2.2.2.2.1), (Value.slice q4.1.1.2.2.2.2.2.a q4.1.1.2.2.2.2.2.n q4.1.1.2.2.2.2.2.c)]).bind fun q5 =>
    (asT (txt q5.2 (Value.slice q1.1.a q1.1.n q1.1.c))).bind fun s6 =>
    (cond (s6.toList == (⟨#[103, 68, 102, 152, 0, 0, 0, 22, 0, 0, 0, 0, 0, 0, 0, 5]⟩ : ByteArray).toList) (some (q4.1.2.2 == (0 : Int), q5.2))
      (some (false, q5.2))).bind fun g7 =>
    (cond g7.1 (some (q4.1.2.1 == (30 : Int), g7.2))
      (some (false, g7.2))).bind fun g8 =>
    (cond g8.1 ((asI .u64 (ldc g8.2 (some ⟨q4.2.next, 2, none⟩))).bind fun n9 =>
    some (n9 == (9 : Int), g8.2))
      (some (false, g8.2))).bind fun g10 =>
    (cond g10.1 ((asS (ldc g10.2 (some ⟨q4.2.next, 5, none⟩))).bind fun s11 =>
    (asT (txt g10.2 (Value.slice s11.a s11.n s11.c))).bind fun s12 =>
    some (s12.toList == (⟨#[97, 98]⟩ : ByteArray).toList, g10.2))
      (some (false, g10.2))).bind fun g13 =>
    some (g13.1, g13.2)
noncomputable def corbellaw24_known.T (k : Nat) : Tbl := tblOf [⟨19, anyArgs, wr [(.int .i64), (.int .u64), .sl] [.sl] (fun a h => ask_Reply.f k (a.1) (a.2.1) (a.2.2) h)⟩,
  ⟨16, anyArgs, wr [(.st [(.int .i64), (.int .i64), (.int .u64), (.int .u64), (.int .i64), .sl])] [.sl] (fun a h => ask_Lay.f k a h)⟩,
  ⟨17, anyArgs, wr [.sl] [(.st [(.int .i64), (.int .i64), (.int .u64), (.int .u64), (.int .i64), .sl]), (.int .i64), (.int .i64)] (fun a h => ask_Next.f k a h)⟩]
noncomputable def corbellaw24_known.an (k : Nat) (p : Nat) : Option Ann := none
noncomputable def corbellaw24_known.body : Code := (Try.f12.body).getD .skip
set_option maxRecDepth 100000 in
theorem corbellaw24_known.TS {C : FuncId → Bool} {X : CallF} (hX : XOk C X) (k : Nat) : TblS Try.prog C X (corbellaw24_known.T k) := by
  refine tblOf_sound ?_
  intro e he
  rcases List.mem_cons.1 he with rfl | he
  · exact wr_told (ask_Reply.told hX k)
  rcases List.mem_cons.1 he with rfl | he
  · exact wr_told (ask_Lay.told hX k)
  rcases List.mem_cons.1 he with rfl | he
  · exact wr_told (ask_Next.told hX k)
  exact absurd he List.not_mem_nil
set_option maxRecDepth 100000 in
theorem corbellaw24_known.eq (k : Nat) (a : RT []) (h : H) : (fun a h => corbellaw24_known.f k h) a h = kfun Try.prog (corbellaw24_known.T k) (corbellaw24_known.an k) (RT [.bool] × H) Try.f12 (encL [] a) h (fun vs h' => (decL [.bool] vs).bind fun x => some (x, h')) := by kernel_rfl
set_option maxRecDepth 100000 in
theorem corbellaw24_known.told {C : FuncId → Bool} {X : CallF} (hX : XOk C X) (h0 : ∀ args h, X 12 args h = none) (k : Nat) : Den.Told Try.prog C X 12 [] [.bool] (fun a h => corbellaw24_known.f k h) :=
  told_of fun a h q e => fn_of (c := corbellaw24_known.body) (corbellaw24_known.TS hX k) Try.func12 (by kernel_rfl) (h0 _ h)
    (by
      have e : need (corbellaw24_known.an k) corbellaw24_known.body 1 = [] := by kernel_rfl
      rw [e]; intro q hq; cases hq)
    ((corbellaw24_known.eq k a h).symm.trans e)
end Go.Proofs.Ythpkhegoamhgeaa.Fwd
