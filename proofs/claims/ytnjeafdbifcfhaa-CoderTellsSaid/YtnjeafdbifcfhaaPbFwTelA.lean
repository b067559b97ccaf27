/- Any chunks decoded, by the program and by the reference; a stripe's chunks by the reference. No condition. -/
import Derived.Test.YtnjeafdbifcfhaaPbFwRefN
import Derived.Test.YtnjeafdbifcfhaaPbFwDec
namespace Go.Proofs.Ytnjeafdbifcfhaa.Fw
open Go Den Fwd GF
set_option linter.unusedVariables false
set_option linter.unusedSimpArgs false
/-! ### which chunks are enough -/
def selB (bs : List Bool) : List Nat := ((List.range 6).filter fun i => bs.getD i false).take 4
def enough (bs : List Bool) : Bool := !(Nat.beq (selB bs).length 4) || (invP (rowsI (selB bs))).isSome
theorem enough_all : ∀ a b c d e f : Bool, enough [a, b, c, d, e, f] = true := by decide +kernel
theorem sel_inv {m : Mx} (h4 : (selI m 6).length = 4) : ∃ N, invP (rowsI (selI m 6)) = some N := by
  have e : selI m 6 = selB [decide (0 < (m.getD 0 []).length), decide (0 < (m.getD 1 []).length), decide (0 < (m.getD 2 []).length), decide (0 < (m.getD 3 []).length), decide (0 < (m.getD 4 []).length), decide (0 < (m.getD 5 []).length)] := by
    unfold selI selB
    congr 1
  have a := enough_all (decide (0 < (m.getD 0 []).length)) (decide (0 < (m.getD 1 []).length)) (decide (0 < (m.getD 2 []).length)) (decide (0 < (m.getD 3 []).length)) (decide (0 < (m.getD 4 []).length)) (decide (0 < (m.getD 5 []).length))
  unfold enough at a
  rw [← e, h4] at a
  exact Option.isSome_iff_exists.1 (by simpa using a)
structure GoodC (m : Mx) : Prop where
  n : m.length = 6
  l : ∀ r ∈ m, r.length = 0 ∨ r.length = 32
  s : (selI m 6).length = 4
noncomputable instance (m : Mx) : Decidable (GoodC m) := Classical.propDecidable _
def decP (m : Mx) : List UInt8 := (mulM ((invP (rowsI (selI m 6))).getD []) ((selI m 6).map fun i => m.getD i [])).flatten
/-! ### the program -/
theorem wrong_l0 (k : Nat) {h : H} {s : Sl} {ps : Parts} (A : MxR h s ps) (h6 : ps.length ≤ 1000) : ∀ n j, ps.length - j < n → j ≤ ps.length →
    ∃ v, slices_IndexFunc_byte_byte_coder_Coder_Decode_1.l0 k n s () (Int.ofNat ps.length) (Int.ofNat j) h = some (v, h) ∧ ((v = .inr () ∧ ∀ p ∈ ps.drop j, p.2.length = 0 ∨ p.2.length = 32) ∨ ((∃ i : Nat, v = .inl (Int.ofNat i)) ∧ ∃ p ∈ ps, ¬ (p.2.length = 0 ∨ p.2.length = 32)))
  | 0, j, hn, _ => by omega
  | n + 1, j, hn, hj => by
    rw [slices_IndexFunc_byte_byte_coder_Coder_Decode_1.l0_succ]
    by_cases c : j < ps.length
    rotate_left
    · rw [decNlt c, cond_false]
      exact ⟨_, rfl, .inl ⟨rfl, fun p hp => by rw [List.drop_eq_nil_of_le (by omega)] at hp; cases hp⟩⟩
    rw [decLt c, cond_true]
    obtain ⟨p, e1, e2⟩ := A.at c
    rw [e1]
    simp only [asP_ptr, Option.bind_some]
    rw [e2]
    simp only [Option.bind_some]
    unfold coder_Coder_Decode_1.f
    rw [(A.row c).n_byt]
    have hd : ps.drop j = ps[j] :: ps.drop (j + 1) := List.drop_eq_getElem_cons c
    have J : (cond (Int.ofNat ps[j].2.length != (0 : Int)) (some (Int.ofNat ps[j].2.length != (32 : Int), h)) (some (false, h)) : Option (Bool × H)) = some (!decide (ps[j].2.length = 0 ∨ ps[j].2.length = 32), h) := by
      by_cases z : ps[j].2.length = 0
      · rw [show (Int.ofNat ps[j].2.length != (0 : Int)) = false by rw [z]; rfl, cond_false, decide_eq_true (.inl z)]; rfl
      · rw [show (Int.ofNat ps[j].2.length != (0 : Int)) = true by rw [bne_iff_ne]; exact fun f => z (Int.ofNat.inj f), cond_true]
        by_cases y : ps[j].2.length = 32
        · rw [decide_eq_true (.inr y), y]; rfl
        · rw [show (Int.ofNat ps[j].2.length != (32 : Int)) = true by rw [bne_iff_ne]; exact fun f => y (Int.ofNat.inj f), decide_eq_false (fun f => f.elim z y)]; rfl
    rw [J]
    simp only [Option.bind_some]
    by_cases q : ps[j].2.length = 0 ∨ ps[j].2.length = 32
    · rw [decide_eq_true q, Bool.not_true, cond_false, wrap_succ (by omega)]
      obtain ⟨v, a1, a2⟩ := wrong_l0 k A h6 n (j + 1) (by omega) c
      refine ⟨v, a1, a2.imp (fun ⟨x, y⟩ => ⟨x, fun p hp => ?_⟩) id⟩
      rw [hd] at hp
      rcases List.mem_cons.1 hp with z | z
      · rw [z]; exact q
      · exact y p z
    · rw [decide_eq_false q, Bool.not_false, cond_true]
      exact ⟨_, rfl, .inr ⟨⟨j, rfl⟩, _, List.getElem_mem c, q⟩⟩
theorem wrong_f (k : Nat) (hk : 1000 < k) {h : H} {s : Sl} {ps : Parts} (A : MxR h s ps) (h6 : ps.length ≤ 900) : slices_ContainsFunc_byte_byte_coder_Coder_Decode_1.f k s () h = some (!decide (∀ p ∈ ps, p.2.length = 0 ∨ p.2.length = 32), h) := by
  unfold slices_ContainsFunc_byte_byte_coder_Coder_Decode_1.f slices_IndexFunc_byte_byte_coder_Coder_Decode_1.f
  obtain ⟨v, a1, a2⟩ := wrong_l0 k A (by omega) k 0 (by omega) (Nat.zero_le _)
  rw [A.n, show (0 : Int) = Int.ofNat 0 from rfl, a1]
  rcases a2 with ⟨rfl, a2⟩ | ⟨⟨i, rfl⟩, p, hp, a2⟩
  · rw [List.drop_zero] at a2
    rw [decide_eq_true a2]; rfl
  · rw [decide_eq_false (fun f => a2 (f p hp))]
    simp only [Option.bind_some]
    rw [decide_eq_true (show Int.ofNat i ≥ Int.ofNat 0 by simp only [Int.ofNat_eq_natCast]; omega)]; rfl
theorem inv_no (k : Nat) (hk : 1000 < k) {fb : Nat} {h : H} (w : WF h) {s : Sl} {ps : Parts} (A1 : MxR h s ps) (bad : ¬ (RtM (mxv ps) ∧ (hd (mxv ps)).length = ps.length)) :
    ∃ h', matrix_Inverse.f k (some ⟨fb, 0, none⟩) s h = some ((⟨none, 0, 0⟩, false), h') ∧ Ch0 h h' := by
  unfold matrix_Inverse.f
  rw [show binO1 Try.prog .eql 22 (Value.pointer (some ⟨fb, 0, none⟩)) (Value.pointer none) = some (.bool false) from rfl]
  rw [show asB (some (Value.bool false)) = some false from rfl]
  simp only [Option.bind_some, cond_false]
  obtain ⟨h5, a1, a2⟩ := mright_f k hk w A1
  rw [a1]
  simp only [Option.bind_some]
  cases z : rightM (mxv ps) with
  | false => exact ⟨h5, rfl, a2⟩
  | true =>
    have R := (rightM_iff _).1 z
    simp only [Bool.not_true, cond_false]
    have p0 : 0 < ps.length := by have := R.n0; rw [mxv_len] at this; exact this
    obtain ⟨p, f1, f2⟩ := (A1.stay w a2).at p0
    rw [show (0 : Int) = Int.ofNat 0 from rfl, f1]
    simp only [asP_ptr, Option.bind_some]
    rw [f2]
    simp only [Option.bind_some]
    rw [(A1.row p0).n_byt, ← mxv_hd p0, A1.n, show (Int.ofNat ps.length != Int.ofNat (hd (mxv ps)).length) = true by rw [bne_iff_ne]; exact fun f => bad ⟨R, (Int.ofNat.inj f).symm⟩]
    exact ⟨h5, rfl, a2⟩
theorem sel_short {m : Mx} (h4 : (selI m 6).length ≠ 4) {ps : Parts} (e : mxv ps = rowsI (selI m 6)) : ¬ (RtM (mxv ps) ∧ (hd (mxv ps)).length = ps.length) := by
  rintro ⟨R, q⟩
  have d := rowsI_dim (I := selI m 6) fun i hi => (selI_mem hi).1
  rw [← e] at d
  have p0 := R.n0
  rw [d.n] at p0
  have := d.hd p0
  rw [this, ← mxv_len, d.n] at q
  exact h4 q.symm
theorem decAny_f (k : Nat) (hk : 1000 < k) {h : H} (w : WF h) {cb : Nat} (C : CodR h cb) {sc : Sl} {cs : Parts} (A : MxR h sc cs) (hl : cs.length ≤ 900) :
    ∃ s h', coder_Coder_Decode.f k (some ⟨cb, 0, none⟩) sc h = some ((s, decide (GoodC (mxv cs))), h') ∧ Ch0 h h' ∧ ((GoodC (mxv cs) ∧ SlR 1 h' s (byt (decP (mxv cs))) ∧ (decP (mxv cs)).length = 128) ∨ (¬ GoodC (mxv cs) ∧ s = ⟨none, 0, 0⟩)) := by
  have wr : (∀ p ∈ cs, p.2.length = 0 ∨ p.2.length = 32) ↔ ∀ r ∈ mxv cs, r.length = 0 ∨ r.length = 32 := ⟨fun g r hr => by obtain ⟨p, hp, rfl⟩ := List.mem_map.1 hr; exact g p hp, fun g p hp => g p.2 (List.mem_map.2 ⟨p, hp, rfl⟩)⟩
  by_cases g : GoodC (mxv cs)
  · obtain ⟨N, hN⟩ := sel_inv g.s
    obtain ⟨s, h', a1, a2, a3, a4⟩ := dec_f k hk w C A (by rw [← mxv_len]; exact g.n) (wr.2 g.l) g.s hN
    have e : decP (mxv cs) = (mulM N ((selI (mxv cs) 6).map fun i => (mxv cs).getD i [])).flatten := by unfold decP; rw [hN]; rfl
    rw [← e] at a3 a4
    exact ⟨s, h', by rw [decide_eq_true g]; exact a1, a2, .inl ⟨g, a3, a4⟩⟩
  · rw [decide_eq_false g]
    unfold coder_Coder_Decode.f
    rw [wrong_f k hk A hl]
    simp only [Option.bind_some]
    rw [A.n]
    by_cases l6 : cs.length = 6
    rotate_left
    · rw [show (Int.ofNat cs.length != (6 : Int)) = true by rw [bne_iff_ne]; exact fun f => l6 (Int.ofNat.inj f)]
      exact ⟨_, h, rfl, Ch.refl w, .inr ⟨g, rfl⟩⟩
    rw [l6, show (Int.ofNat 6 != (6 : Int)) = false from rfl, cond_false]
    simp only [Option.bind_some]
    by_cases wl : ∀ p ∈ cs, p.2.length = 0 ∨ p.2.length = 32
    rotate_left
    · rw [decide_eq_false wl]
      exact ⟨_, h, rfl, Ch.refl w, .inr ⟨g, rfl⟩⟩
    rw [decide_eq_true wl, Bool.not_true, cond_false]
    have h4 : (selI (mxv cs) 6).length ≠ 4 := fun f => g ⟨by rw [mxv_len]; exact l6, wr.1 wl, f⟩
    obtain ⟨fb, sr, qs, c1, c2, c3, c4⟩ := C
    obtain ⟨s6, s7, rs, ss, h1, a1, a2, a3, a4, a5, a6⟩ := dec_l0 k hk w c1 c3 c4 A l6 k 0 h ⟨none, 0, 0⟩ ⟨none, 0, 0⟩ [] [] (by omega) (by omega) (MxO.nil w) (MxO.nil w) rfl rfl (fun b hb => by obtain ⟨o, q⟩ := hb; cases q) (fun p hp => by cases hp) (fun p hp => by cases hp)
    rw [show (0 : Int) = Int.ofNat 0 from rfl, a1]
    simp only [Option.bind_some, nilA, asP_ptr, fadd, Nat.zero_add]
    rw [(c1.stay w a4).ldc, show asP (([.pointer (some ⟨fb, 0, none⟩), slv sr] : List Value)[0]?) = some (some ⟨fb, 0, none⟩) from rfl]
    simp only [Option.bind_some]
    obtain ⟨h2, b1, b2⟩ := inv_no k hk a4.wf (fb := fb) a2 (sel_short h4 a5)
    rw [b1]
    exact ⟨_, h2, rfl, a4.then b2, .inr ⟨g, rfl⟩⟩
theorem dec_dim {m : Mx} (g : GoodC m) : ∃ N, invP (rowsI (selI m 6)) = some N ∧ Dim 4 4 N ∧ Dim 4 4 (rowsI (selI m 6)) ∧ Dim 4 32 ((selI m 6).map fun i => m.getD i []) := by
  obtain ⟨N, hN⟩ := sel_inv g.s
  have m6 : ∀ i ∈ selI m 6, i < 6 := fun i hi => (selI_mem hi).1
  have d6 : Dim 4 4 (rowsI (selI m 6)) := by have := rowsI_dim m6; rwa [g.s] at this
  refine ⟨N, hN, ?_, d6, ⟨by rw [List.length_map]; exact g.s, fun r hr => ?_⟩⟩
  · rcases invP_cases d6 (by decide) with ⟨y, ey, dy, _⟩ | ⟨e, _⟩
    · rw [hN] at ey; cases ey; exact dy
    · rw [hN] at e; cases e
  · obtain ⟨i, hi, rfl⟩ := List.mem_map.1 hr
    obtain ⟨i1, i2⟩ := selI_mem hi
    have ci : i < m.length := by rw [g.n]; exact i1
    rw [mxD ci] at i2 ⊢
    rcases g.l _ (List.getElem_mem ci) with e | e <;> omega
/-! ### a chunk's row, by the reference -/
theorem rrow_f (k : Nat) {h : H} (w : WF h) (i : Nat) (hi : i < 6) : ∃ s h', corbelref3_Row.f k (Int.ofNat i) h = some (s, h') ∧ Ch0 h h' ∧ SlR 1 h' s (byt (cRows.getD i [])) ∧ ∀ b, SlB s b → h.next ≤ b := by
  unfold corbelref3_Row.f
  have own : ∀ b, SlB (⟨some ⟨h.next, 0, none⟩, 4, 4⟩ : Sl) b → h.next ≤ b := fun b ⟨o, f⟩ => by
    have : h.next = b := congrArg Addr.block (Option.some.inj f)
    omega
  rw [decide_eq_true (show Int.ofNat i ≥ (0 : Int) by simp only [Int.ofNat_eq_natCast]; omega), cond_true]
  simp only [Option.bind_some]
  by_cases c : i < 4
  · rw [show decide (Int.ofNat i < (4 : Int)) = true from decLt (b := 4) c, cond_true, ixs_ptr c]
    simp only [asP_ptr, Option.bind_some, Nat.zero_add]
    obtain ⟨z1, z2, z3⟩ := newZ_ok w 5 1 (.int .u8 (0 : Int)) 4
    rw [Nat.mul_one, byt_rep] at z3
    obtain ⟨h1, a1, a2, a3, a4⟩ := cell_set z1.wf z3 (j := i) (by rw [List.length_replicate]; exact c) 1
    have a1 : stv 1 (newZ h 5 1 [Value.int .u8 0] 4) (some ⟨h.next, i, none⟩) [.int .u8 1] = some (undef, h1) := a1
    rw [a1]
    refine ⟨_, h1, rfl, Ch0.at z1 a2 (Nat.le_refl _), ?_, own⟩
    have e : cRows.getD i [] = (List.replicate 4 0).set i 1 := by rcases (show i = 0 ∨ i = 1 ∨ i = 2 ∨ i = 3 by omega) with rfl | rfl | rfl | rfl <;> rfl
    rw [e]
    exact SlR.of_is a4 (n := 4) (by rw [byt_len, List.length_set, List.length_replicate]) (by unfold unk; omega)
  · rw [show decide (Int.ofNat i < (4 : Int)) = false from decNlt (b := 4) c, cond_false]
    rcases (show i = 4 ∨ i = 5 by omega) with rfl | rfl
    · obtain ⟨n1, n2, n3⟩ := newR_ok w 5 1 [(Value.int .u8 (1 : Int)), (Value.int .u8 (1 : Int)), (Value.int .u8 (1 : Int)), (Value.int .u8 (1 : Int))]
      exact ⟨_, _, rfl, n1, SlR.of_is n3 (n := 4) rfl (by unfold unk; omega), own⟩
    · obtain ⟨n1, n2, n3⟩ := newR_ok w 5 1 [(Value.int .u8 (1 : Int)), (Value.int .u8 (2 : Int)), (Value.int .u8 (4 : Int)), (Value.int .u8 (8 : Int))]
      exact ⟨_, _, rfl, n1, SlR.of_is n3 (n := 4) rfl (by unfold unk; omega), own⟩
/-! ### decoded, by the reference -/
theorem rdec_l0 (k : Nat) (hk : 1000 < k) {h0 : H} (w0 : WF h0) {sc : Sl} {cs : Parts} (A : MxR h0 sc cs) (l6 : cs.length = 6) : ∀ n j h (s6 s7 : Sl) (rs ss : Parts), 6 - j < n → j ≤ 6 → MxO h0 h s6 rs → MxO h0 h s7 ss → mxv rs = rowsI (selI (mxv cs) j) → mxv ss = (selI (mxv cs) j).map (fun i => (mxv cs).getD i []) → (∀ b, SlB s6 b → ¬ SlB s7 b) → (∀ p ∈ rs, ∀ b, SlB p.1 b → ¬ SlB s7 b) → (∀ p ∈ ss, ∀ b, SlB p.1 b → b < h0.next) → (∀ i (hi : i < cs.length), i < j → cs[i].2.length = 0 ∨ cs[i].2.length = 32) →
    ∃ v h', corbelref3_Decode.l0 k n sc s6 s7 (Int.ofNat j) h = some (v, h') ∧ Ch0 h0 h' ∧ ((v = .inl (⟨none, 0, 0⟩, false) ∧ ∃ p ∈ cs, ¬ (p.2.length = 0 ∨ p.2.length = 32)) ∨ ((∀ p ∈ cs, p.2.length = 0 ∨ p.2.length = 32) ∧ ∃ s6' s7' rs' ss', v = .inr (s6', s7') ∧ MxR h' s6' rs' ∧ MxR h' s7' ss' ∧ mxv rs' = rowsI (selI (mxv cs) 6) ∧ mxv ss' = (selI (mxv cs) 6).map (fun i => (mxv cs).getD i [])))
  | 0, j, h, s6, s7, rs, ss, hn, _, _, _, _, _, _, _, _, _ => by omega
  | n + 1, j, h, s6, s7, rs, ss, hn, hj, R, S, hr, hs, D, br, bs, ok => by
    rw [corbelref3_Decode.l0_succ]
    by_cases c : j < 6
    rotate_left
    · rw [show decide (Int.ofNat j < (6 : Int)) = false from decNlt (b := 6) c, cond_false]
      obtain rfl : j = 6 := by omega
      exact ⟨_, h, rfl, R.ch, .inr ⟨fun p hp => by
        obtain ⟨i, hi, rfl⟩ := List.mem_iff_getElem.1 hp
        exact ok i hi (by omega), s6, s7, rs, ss, rfl, R.mxr, S.mxr, hr, hs⟩⟩
    rw [show decide (Int.ofNat j < (6 : Int)) = true from decLt (b := 6) c, cond_true]
    have cj : j < cs.length := by omega
    obtain ⟨p, e1, e2⟩ := A.at cj
    have e2' : ∀ g, Ch0 h0 g → asS (ldc g p) = some cs[j].1 := fun g cg => by
      obtain ⟨p', e1', e3⟩ := (A.stay w0 cg).at cj
      rw [e1] at e1'
      cases e1'
      exact e3
    rw [e1]
    simp only [asP_ptr, Option.bind_some]
    rw [e2' h R.ch]
    simp only [Option.bind_some]
    have nA := (A.row cj).n_byt
    have nR := R.mxr.n
    rw [nA]
    have J : (cond (Int.ofNat cs[j].2.length != (0 : Int)) (some (Int.ofNat cs[j].2.length != (32 : Int), h)) (some (false, h)) : Option (Bool × H)) = some (!decide (cs[j].2.length = 0 ∨ cs[j].2.length = 32), h) := by
      by_cases z : cs[j].2.length = 0
      · rw [show (Int.ofNat cs[j].2.length != (0 : Int)) = false by rw [z]; rfl, cond_false, decide_eq_true (.inl z)]; rfl
      · rw [show (Int.ofNat cs[j].2.length != (0 : Int)) = true by rw [bne_iff_ne]; exact fun f => z (Int.ofNat.inj f), cond_true]
        by_cases y : cs[j].2.length = 32
        · rw [decide_eq_true (.inr y), y]; rfl
        · rw [show (Int.ofNat cs[j].2.length != (32 : Int)) = true by rw [bne_iff_ne]; exact fun f => y (Int.ofNat.inj f), decide_eq_false (fun f => f.elim z y)]; rfl
    rw [J]
    simp only [Option.bind_some]
    by_cases okj : cs[j].2.length = 0 ∨ cs[j].2.length = 32
    rotate_left
    · rw [decide_eq_false okj, Bool.not_false, cond_true]
      exact ⟨_, h, rfl, R.ch, .inl ⟨rfl, _, List.getElem_mem cj, okj⟩⟩
    rw [decide_eq_true okj, Bool.not_true, cond_false]
    have ok' : ∀ i (hi : i < cs.length), i < j + 1 → cs[i].2.length = 0 ∨ cs[i].2.length = 32 := fun i hi hij => by
      by_cases z : i = j
      · subst z; exact okj
      · exact ok i hi (by omega)
    have lr : rs.length = (selI (mxv cs) j).length := by rw [← mxv_len, hr]; exact List.length_map _
    have ls : ss.length = (selI (mxv cs) j).length := by rw [← mxv_len, hs]; exact List.length_map _
    have l4 := selI_len (mxv cs) j
    have gj : (mxv cs).getD j [] = cs[j].2 := mxv_getD cj
    have sj := selI_succ (mxv cs) j
    rw [gj, ← ls] at sj
    by_cases q : 0 < cs[j].2.length ∧ ss.length < 4
    · rw [if_pos q] at sj
      rw [decide_eq_true (show Int.ofNat cs[j].2.length > (0 : Int) by simp only [Int.ofNat_eq_natCast]; omega), decide_eq_true (show Int.ofNat s6.n < (4 : Int) by rw [nR]; simp only [Int.ofNat_eq_natCast]; omega)]
      simp only [cond_true, Option.bind_some]
      obtain ⟨t, h1, f1, f2, f3, f4⟩ := rrow_f k R.ch.wf j c
      rw [f1]
      simp only [Option.bind_some]
      have R1 := R.more f2
      have S0 := S.more f2
      have bc : ∀ b, SlB cs[j].1 b → b < h0.next := fun b hb => (A.row cj).blk w0 hb
      obtain ⟨s6', h2, g1, g2, g3, g4⟩ := R1.push2 t _ f3 (fun b hb f => by have := f4 b hb; have := R.ow.lt R.ch.wf f; omega) (by omega)
      rw [g1]
      simp only [Option.bind_some]
      rw [e2' h2 g2.ch]
      simp only [Option.bind_some]
      have S1 : MxO h0 h2 s7 ss := S0.keep g3 (fun x hx => R.fr x hx) (fun x hx f => D x f hx) (fun p hp x hx f => by have := bs p hp x hx; have := R.fr x f; omega)
      obtain ⟨s7', h3, k1, k2, k3, k4⟩ := S1.push2 cs[j].1 cs[j].2 ((A.row cj).stay w0 g2.ch) (fun b hb f => by have := bc b hb; have := S.fr b f; omega) (by omega)
      rw [k1]
      simp only [Option.bind_some]
      have s7l : ∀ b, SlB s7 b → b < h.next := fun b hb => S.ow.lt S.ch.wf hb
      have D1 : ∀ b, SlB s6' b → ¬ SlB s7 b := fun b hb f => by
        rcases g4 b hb with e | e
        · exact D b e f
        · have := s7l b f; have := f2.le; omega
      have br0 : ∀ p ∈ rs ++ [(t, cRows.getD j [])], ∀ b, SlB p.1 b → ¬ SlB s7 b := fun p hp b hb f => by
        rcases List.mem_append.1 hp with e | e
        · exact br p e b hb f
        · obtain rfl := List.mem_singleton.1 e
          have := f4 b hb; have := s7l b f; omega
      have brl : ∀ p ∈ rs ++ [(t, cRows.getD j [])], ∀ b, SlB p.1 b → b < h2.next := fun p hp b hb => (g2.rs p hp).blk g2.ch.wf hb
      have br1 : ∀ p ∈ rs ++ [(t, cRows.getD j [])], ∀ b, SlB p.1 b → ¬ SlB s7' b := fun p hp b hb f => by
        rcases k4 b f with e | e
        · exact br0 p hp b hb e
        · have := brl p hp b hb; omega
      have bs1 : ∀ p ∈ ss ++ [(cs[j].1, cs[j].2)], ∀ b, SlB p.1 b → b < h0.next := fun p hp b hb => by
        rcases List.mem_append.1 hp with e | e
        · exact bs p e b hb
        · obtain rfl := List.mem_singleton.1 e
          exact bc b hb
      have R2 : MxO h0 h3 s6' (rs ++ [(t, cRows.getD j [])]) := g2.keep k3 (fun x hx => S.fr x hx) (fun x hx f => D1 x hx f) (fun p hp x hx f => br0 p hp x hx f)
      have D2 : ∀ b, SlB s6' b → ¬ SlB s7' b := fun b hb f => by
        rcases k4 b f with e | e
        · exact D1 b hb e
        · have := g2.ow.lt g2.ch.wf hb; omega
      rw [wrap_succ (by omega)]
      refine rdec_l0 k hk w0 A l6 n (j + 1) h3 s6' s7' _ _ (by omega) (by omega) R2 k2 ?_ ?_ D2 br1 bs1 ok'
      · rw [sj]
        unfold rowsI at hr ⊢
        unfold mxv at hr ⊢
        rw [List.map_append, List.map_append, hr]
        rfl
      · rw [sj, List.map_append, ← hs]
        show mxv (ss ++ [(cs[j].1, cs[j].2)]) = mxv ss ++ [(mxv cs).getD j []]
        rw [gj]
        unfold mxv
        rw [List.map_append]; rfl
    · rw [if_neg q] at sj
      have : (cond (decide (Int.ofNat cs[j].2.length > (0 : Int))) (some (decide (Int.ofNat s6.n < (4 : Int)), h)) (some (false, h)) : Option (Bool × H)) = some (false, h) := by
        rw [nR]
        by_cases d : 0 < cs[j].2.length
        · rw [decide_eq_true (show Int.ofNat cs[j].2.length > (0 : Int) by simp only [Int.ofNat_eq_natCast]; omega), decide_eq_false (show ¬ Int.ofNat rs.length < (4 : Int) by simp only [Int.ofNat_eq_natCast]; omega)]; rfl
        · rw [decide_eq_false (show ¬ Int.ofNat cs[j].2.length > (0 : Int) by simp only [Int.ofNat_eq_natCast]; omega)]; rfl
      rw [this]
      simp only [Option.bind_some, cond_false]
      rw [wrap_succ (by omega)]
      exact rdec_l0 k hk w0 A l6 n (j + 1) h s6 s7 rs ss (by omega) (by omega) R S (by rw [sj]; exact hr) (by rw [sj]; exact hs) D br bs ok'
theorem rdec_l1 (k : Nat) {h0 : H} (w0 : WF h0) {s : Sl} {ps : Parts} (A : MxR h0 s ps) (hl : ps.length ≤ 64) (hw : ∀ p ∈ ps, p.2.length ≤ 64) : ∀ n i h t, ps.length - i < n → i ≤ ps.length → Ch0 h0 h → Ow 5 1 h t (byt ((mxv ps).take i).flatten) → (∀ b, SlB t b → h0.next ≤ b) → (((mxv ps).take i).flatten).length ≤ 64 * i →
    ∃ t' h', corbelref3_Decode.l1 k n s t (Int.ofNat i) h = some (t', h') ∧ Ch0 h0 h' ∧ Ow 5 1 h' t' (byt (mxv ps).flatten)
  | 0, i, h, t, hf, _, _, _, _, _ => by omega
  | n + 1, i, h, t, hf, hi, C, O, F, L => by
    rw [corbelref3_Decode.l1_succ, A.n]
    have pl : (mxv ps).length = ps.length := List.length_map _
    by_cases c : i < ps.length
    rotate_left
    · rw [decNlt c, cond_false]
      rw [List.take_of_length_le (by omega)] at O
      exact ⟨t, h, rfl, C, O⟩
    rw [decLt c, cond_true]
    obtain ⟨p, e1, e2⟩ := (A.stay w0 C).at c
    rw [A.n] at e1
    rw [e1]
    simp only [asP_ptr, Option.bind_some]
    rw [e2]
    simp only [Option.bind_some]
    have hp := hw _ (List.getElem_mem c)
    obtain ⟨t', h1, a1, a2, a3, a4⟩ := app_b C.wf O ((A.row c).stay w0 C) (by omega)
    rw [a1]
    simp only [Option.bind_some]
    rw [wrap_succ (by omega)]
    have et : ((mxv ps).take (i + 1)).flatten = ((mxv ps).take i).flatten ++ ps[i].2 := by
      rw [List.take_succ_eq_append_getElem (by omega), List.flatten_append]
      simp only [mxv, List.getElem_map, List.flatten_cons, List.flatten_nil, List.append_nil]
    refine rdec_l1 k w0 A hl hw n (i + 1) h1 t' (by omega) c (Ch0.own C a2 F) (by rw [et]; exact a3) (fun b hb => (a4 b hb).elim (F b) fun f => Nat.le_trans C.le f) (by rw [et, List.length_append]; omega)
theorem rdecAny_f (k : Nat) (hk : 1000 < k) {h : H} (w : WF h) {sc : Sl} {cs : Parts} (A : MxR h sc cs) :
    ∃ s h', corbelref3_Decode.f k sc h = some ((s, decide (GoodC (mxv cs))), h') ∧ Ch0 h h' ∧ ((GoodC (mxv cs) ∧ SlR 1 h' s (byt (decP (mxv cs)))) ∨ (¬ GoodC (mxv cs) ∧ s = ⟨none, 0, 0⟩)) := by
  have wr : (∀ p ∈ cs, p.2.length = 0 ∨ p.2.length = 32) ↔ ∀ r ∈ mxv cs, r.length = 0 ∨ r.length = 32 := ⟨fun g r hr => by obtain ⟨p, hp, rfl⟩ := List.mem_map.1 hr; exact g p hp, fun g p hp => g p.2 (List.mem_map.2 ⟨p, hp, rfl⟩)⟩
  unfold corbelref3_Decode.f
  rw [A.n]
  by_cases l6 : cs.length = 6
  rotate_left
  · have g : ¬ GoodC (mxv cs) := fun g => l6 (by rw [← mxv_len]; exact g.n)
    rw [show (Int.ofNat cs.length != (6 : Int)) = true by rw [bne_iff_ne]; exact fun f => l6 (Int.ofNat.inj f), cond_true, decide_eq_false g]
    exact ⟨_, h, rfl, Ch.refl w, .inr ⟨g, rfl⟩⟩
  rw [l6, show (Int.ofNat 6 != (6 : Int)) = false from rfl, cond_false]
  obtain ⟨v, h1, a1, a2, a3⟩ := rdec_l0 k hk w A l6 k 0 h ⟨none, 0, 0⟩ ⟨none, 0, 0⟩ [] [] (by omega) (by omega) (MxO.nil w) (MxO.nil w) rfl rfl (fun b hb => by obtain ⟨o, q⟩ := hb; cases q) (fun p hp => by cases hp) (fun p hp => by cases hp) (fun i hi f => by omega)
  rw [show (0 : Int) = Int.ofNat 0 from rfl, a1]
  simp only [Option.bind_some]
  rcases a3 with ⟨rfl, p, hp, q⟩ | ⟨wl, s6, s7, rs, ss, rfl, m1, m2, m3, m4⟩
  · have g : ¬ GoodC (mxv cs) := fun g => q (wr.2 g.l p hp)
    rw [decide_eq_false g]
    exact ⟨_, h1, rfl, a2, .inr ⟨g, rfl⟩⟩
  · simp only
    have rl : rs.length = (selI (mxv cs) 6).length := by rw [← mxv_len, m3]; exact List.length_map _
    rw [m1.n]
    by_cases h4 : (selI (mxv cs) 6).length = 4
    rotate_left
    · have g : ¬ GoodC (mxv cs) := fun g => h4 g.s
      have := selI_len (mxv cs) 6
      rw [decide_eq_true (show Int.ofNat rs.length < (4 : Int) by simp only [Int.ofNat_eq_natCast]; omega), cond_true, decide_eq_false g]
      exact ⟨_, h1, rfl, a2, .inr ⟨g, rfl⟩⟩
    have g : GoodC (mxv cs) := ⟨by rw [mxv_len]; exact l6, wr.1 wl, h4⟩
    rw [decide_eq_false (show ¬ Int.ofNat rs.length < (4 : Int) by simp only [Int.ofNat_eq_natCast]; omega), cond_false, decide_eq_true g]
    obtain ⟨N, hN, dN, d6, d7⟩ := dec_dim g
    obtain ⟨t, ok, h2, b1, b2, b3⟩ := rinvm_f k hk a2.wf (⟨rs, m1, m3, d6⟩ : MxI h1 s6 4 4 _) (by decide) (by decide)
    rw [b1]
    have hO : ok = true ∧ MxI h2 t 4 4 N := by
      rcases b3 with ⟨_, _, u⟩ | ⟨x, u1, u2, u3⟩
      · rw [hN] at u; cases u
      · rw [hN] at u2; cases u2; exact ⟨u1, u3⟩
    rw [hO.1]
    simp only [Option.bind_some, Bool.not_true, cond_false]
    have M7 : MxI h1 s7 4 32 ((selI (mxv cs) 6).map fun i => (mxv cs).getD i []) := ⟨ss, m2, m4, d7⟩
    obtain ⟨u, h3, c1, c2, c3⟩ := rmulm_f k hk b2.wf hO.2 (M7.stay a2.wf b2) (by decide) (by decide) (by decide) (by decide) (by decide) (by decide)
    rw [c1]
    simp only [Option.bind_some]
    obtain ⟨os, e1, e2, e3⟩ := c3
    have ol : os.length = 4 := by rw [← mxv_len, e2, e3.n]
    obtain ⟨sz, h4', f1, f2, f3⟩ := rdec_l1 k c2.wf e1 (by omega) (fun p hp => by have := e3.w p.2 (by rw [← e2]; exact List.mem_map.2 ⟨p, hp, rfl⟩); omega) k 0 h3 ⟨none, 0, 0⟩ (by omega) (Nat.zero_le _) (Ch.refl c2.wf) Ow.nil (fun b hb => by obtain ⟨o, q⟩ := hb; cases q) (Nat.le_refl _)
    rw [f1]
    refine ⟨sz, h4', rfl, ((a2.then b2).then c2).then f2, .inl ⟨g, ?_⟩⟩
    have e : decP (mxv cs) = (mxv os).flatten := by unfold decP; rw [hN, e2]; rfl
    rw [e]
    exact f3.slr
end Go.Proofs.Ytnjeafdbifcfhaa.Fw
