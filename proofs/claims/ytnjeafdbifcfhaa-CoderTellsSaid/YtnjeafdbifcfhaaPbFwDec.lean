/- Rows in a slice of their own: copied, one put for another. No condition. -/
import Derived.Test.YtnjeafdbifcfhaaPbFwLaw4
namespace Go.Proofs.Ytnjeafdbifcfhaa.Fw
open Go Den Fwd GF
set_option linter.unusedVariables false
set_option linter.unusedSimpArgs false
theorem MxR.cell {h : H} {s : Sl} {ps : Parts} (A : MxR h s ps) {r c : Nat} {m : Nat} (d : Dim m c (mxv ps)) (hr : r < m) {i : Nat} (hi : i < c) : ∃ (p : Option Addr) (q : Option Addr) (t : Sl), ixs 1 s.a s.n (Int.ofNat r) = some (.pointer p) ∧ asS (ldc h p) = some t ∧ t.n = c ∧ ixs 1 t.a t.n (Int.ofNat i) = some (.pointer q) ∧ ldc h q = some (.int .u8 (Int.ofNat (ent (mxv ps) r i).toNat)) := by
  have hl : r < ps.length := by have := d.n; rw [mxv_len] at this; omega
  obtain ⟨p, e1, e2⟩ := A.at hl
  have e3 : ps[r].2.length = c := d.w _ (List.mem_map.2 ⟨_, List.getElem_mem hl, rfl⟩)
  obtain ⟨q, f1, f2⟩ := (A.row hl).byte (List.getElem?_eq_getElem (show i < ps[r].2.length by omega))
  refine ⟨p, q, ps[r].1, e1, e2, by rw [(A.row hl).n_byt]; exact e3, f1, ?_⟩
  rw [f2]
  unfold ent
  rw [mxv_getD hl, bytD (show i < ps[r].2.length by omega)]
end Go.Proofs.Ytnjeafdbifcfhaa.Fw
/- The coder: decoding, checking. No condition. -/
namespace Go.Proofs.Ytnjeafdbifcfhaa.Fw
open Go Den Fwd GF
set_option linter.unusedVariables false
set_option linter.unusedSimpArgs false
theorem decw_l0 (k : Nat) {h : H} {s : Sl} {ps : Parts} (A : MxR h s ps) (hl : ∀ p ∈ ps, p.2.length = 0 ∨ p.2.length = 32) (h6 : ps.length ≤ 1000) : ∀ n j, ps.length - j < n → j ≤ ps.length →
    slices_IndexFunc_byte_byte_coder_Coder_Decode_1.l0 k n s () (Int.ofNat ps.length) (Int.ofNat j) h = some (.inr (), h)
  | 0, j, hn, _ => by omega
  | n + 1, j, hn, hj => by
    rw [slices_IndexFunc_byte_byte_coder_Coder_Decode_1.l0_succ]
    by_cases c : j < ps.length
    · rw [decLt c, cond_true]
      obtain ⟨p, e1, e2⟩ := A.at c
      rw [e1]
      simp only [asP_ptr, Option.bind_some]
      rw [e2]
      simp only [Option.bind_some]
      unfold coder_Coder_Decode_1.f
      rw [(A.row c).n_byt]
      have : (cond (Int.ofNat ps[j].2.length != (0 : Int)) (some (Int.ofNat ps[j].2.length != (32 : Int), h)) (some (false, h)) : Option (Bool × H)) = some (false, h) := by
        rcases hl _ (List.getElem_mem c) with e | e <;> rw [e] <;> rfl
      rw [this]
      simp only [Option.bind_some, cond_false]
      rw [wrap_succ (by omega)]
      exact decw_l0 k A hl h6 n (j + 1) (by omega) (by omega)
    · rw [decNlt c, cond_false]
theorem decw_f (k : Nat) (hk : 1000 < k) {h : H} {s : Sl} {ps : Parts} (A : MxR h s ps) (hl : ∀ p ∈ ps, p.2.length = 0 ∨ p.2.length = 32) (h6 : ps.length ≤ 900) : slices_ContainsFunc_byte_byte_coder_Coder_Decode_1.f k s () h = some (false, h) := by
  unfold slices_ContainsFunc_byte_byte_coder_Coder_Decode_1.f slices_IndexFunc_byte_byte_coder_Coder_Decode_1.f
  rw [A.n, show (0 : Int) = Int.ofNat 0 from rfl, decw_l0 k A hl (by omega) k 0 (by omega) (Nat.zero_le _)]
  rfl
theorem dec_l0 (k : Nat) (hk : 1000 < k) {h0 : H} (w0 : WF h0) {cb fb : Nat} {sr : Sl} {qs : Parts} (C : Is h0 cb 85 2 [.pointer (some ⟨fb, 0, none⟩), slv sr]) (Q : MxR h0 sr qs) (eq : mxv qs = cRows) {sc : Sl} {cs : Parts} (A : MxR h0 sc cs) (l6 : cs.length = 6) : ∀ n j h (s6 s7 : Sl) (rs ss : Parts), 6 - j < n → j ≤ 6 → MxO h0 h s6 rs → MxO h0 h s7 ss → mxv rs = rowsI (selI (mxv cs) j) → mxv ss = (selI (mxv cs) j).map (fun i => (mxv cs).getD i []) → (∀ b, SlB s6 b → ¬ SlB s7 b) → (∀ p ∈ rs, ∀ b, SlB p.1 b → b < h0.next) → (∀ p ∈ ss, ∀ b, SlB p.1 b → b < h0.next) →
    ∃ s6' s7' rs' ss' h', coder_Coder_Decode.l0 k n (some ⟨cb, 0, none⟩) sc (Int.ofNat 6) s6 s7 (Int.ofNat j) h = some ((s6', s7'), h') ∧ MxR h' s6' rs' ∧ MxR h' s7' ss' ∧ Ch0 h0 h' ∧ mxv rs' = rowsI (selI (mxv cs) 6) ∧ mxv ss' = (selI (mxv cs) 6).map (fun i => (mxv cs).getD i [])
  | 0, j, h, s6, s7, rs, ss, hn, _, _, _, _, _, _, _, _ => by omega
  | n + 1, j, h, s6, s7, rs, ss, hn, hj, R, S, hr, hs, D, br, bs => by
    rw [coder_Coder_Decode.l0_succ]
    by_cases c : j < 6
    · rw [decLt c, cond_true]
      have cj : j < cs.length := by omega
      obtain ⟨p, e1, e2⟩ := (A.stay w0 R.ch).at cj
      rw [e1]
      simp only [asP_ptr, Option.bind_some]
      rw [e2]
      simp only [Option.bind_some]
      have nA := (A.row cj).n_byt
      have nS := S.mxr.n
      have lr : rs.length = (selI (mxv cs) j).length := by rw [← mxv_len, hr]; exact List.length_map _
      have ls : ss.length = (selI (mxv cs) j).length := by rw [← mxv_len, hs]; exact List.length_map _
      have l4 := selI_len (mxv cs) j
      have gj : (mxv cs).getD j [] = cs[j].2 := mxv_getD cj
      have sj := selI_succ (mxv cs) j
      rw [gj, ← ls] at sj
      by_cases q : 0 < cs[j].2.length ∧ ss.length < 4
      · rw [if_pos q] at sj
        rw [decide_eq_true (show Int.ofNat cs[j].1.n > (0 : Int) by rw [nA]; simp only [Int.ofNat_eq_natCast]; omega), decide_eq_true (show Int.ofNat s7.n < (4 : Int) by rw [nS]; simp only [Int.ofNat_eq_natCast]; omega)]
        simp only [cond_true, Option.bind_some, nilA, asP_ptr, fadd, Nat.zero_add]
        rw [(C.stay w0 R.ch).ldc, show asS (([.pointer (some ⟨fb, 0, none⟩), slv sr] : List Value)[1]?) = some sr from rfl]
        simp only [Option.bind_some]
        have qj : j < qs.length := by rw [← mxv_len, eq]; exact c
        obtain ⟨p2, f1, f2⟩ := (Q.stay w0 R.ch).at qj
        rw [f1]
        simp only [asP_ptr, Option.bind_some]
        rw [f2]
        simp only [Option.bind_some]
        have bq : ∀ b, SlB qs[j].1 b → b < h0.next := fun b hb => (Q.row qj).blk w0 hb
        have bc : ∀ b, SlB cs[j].1 b → b < h0.next := fun b hb => (A.row cj).blk w0 hb
        obtain ⟨s6', h1, g1, g2, g3, g4⟩ := R.push2 qs[j].1 qs[j].2 ((Q.row qj).stay w0 R.ch) (fun b hb f => by have := bq b hb; have := R.fr b f; omega) (by omega)
        rw [g1]
        simp only [Option.bind_some]
        have S1 : MxO h0 h1 s7 ss := S.keep g3 (fun x hx => R.fr x hx) (fun x hx f => D x f hx) (fun p hp x hx f => by have := bs p hp x hx; have := R.fr x f; omega)
        obtain ⟨s7', h2, k1, k2, k3, k4⟩ := S1.push2 cs[j].1 cs[j].2 ((A.row cj).stay w0 g2.ch) (fun b hb f => by have := bc b hb; have := S.fr b f; omega) (by omega)
        rw [k1]
        simp only [Option.bind_some]
        have D1 : ∀ b, SlB s6' b → ¬ SlB s7 b := fun b hb f => by
          rcases g4 b hb with e | e
          · exact D b e f
          · have := S.ow.lt S.ch.wf f; omega
        have br1 : ∀ p ∈ rs ++ [(qs[j].1, qs[j].2)], ∀ b, SlB p.1 b → b < h0.next := fun p hp b hb => by
          rcases List.mem_append.1 hp with e | e
          · exact br p e b hb
          · obtain rfl := List.mem_singleton.1 e
            exact bq b hb
        have bs1 : ∀ p ∈ ss ++ [(cs[j].1, cs[j].2)], ∀ b, SlB p.1 b → b < h0.next := fun p hp b hb => by
          rcases List.mem_append.1 hp with e | e
          · exact bs p e b hb
          · obtain rfl := List.mem_singleton.1 e
            exact bc b hb
        have R2 : MxO h0 h2 s6' (rs ++ [(qs[j].1, qs[j].2)]) := g2.keep k3 (fun x hx => S.fr x hx) (fun x hx f => D1 x hx f) (fun p hp x hx f => by have := br1 p hp x hx; have := S.fr x f; omega)
        have D2 : ∀ b, SlB s6' b → ¬ SlB s7' b := fun b hb f => by
          rcases k4 b f with e | e
          · exact D1 b hb e
          · have := g2.ow.lt g2.ch.wf hb; omega
        rw [wrap_succ (by omega)]
        refine dec_l0 k hk w0 C Q eq A l6 n (j + 1) h2 s6' s7' _ _ (by omega) (by omega) R2 k2 ?_ ?_ D2 br1 bs1
        · rw [sj]
          unfold rowsI at hr ⊢
          unfold mxv at hr ⊢
          rw [List.map_append, List.map_append, hr]
          congr 1
          show [qs[j].2] = [cRows.getD j []]
          rw [← eq, mxv_getD qj]
        · rw [sj, List.map_append, ← hs]
          show mxv (ss ++ [(cs[j].1, cs[j].2)]) = mxv ss ++ [(mxv cs).getD j []]
          rw [gj]
          unfold mxv
          rw [List.map_append]; rfl
      · rw [if_neg q] at sj
        have : (cond (decide (Int.ofNat cs[j].1.n > (0 : Int))) (some (decide (Int.ofNat s7.n < (4 : Int)), h)) (some (false, h)) : Option (Bool × H)) = some (false, h) := by
          rw [nA, nS]
          by_cases d : 0 < cs[j].2.length
          · rw [decide_eq_true (show Int.ofNat cs[j].2.length > (0 : Int) by simp only [Int.ofNat_eq_natCast]; omega), decide_eq_false (show ¬ Int.ofNat ss.length < (4 : Int) by simp only [Int.ofNat_eq_natCast]; omega)]; rfl
          · rw [decide_eq_false (show ¬ Int.ofNat cs[j].2.length > (0 : Int) by simp only [Int.ofNat_eq_natCast]; omega)]; rfl
        rw [this]
        simp only [Option.bind_some, cond_false]
        rw [wrap_succ (by omega)]
        exact dec_l0 k hk w0 C Q eq A l6 n (j + 1) h s6 s7 rs ss (by omega) (by omega) R S (by rw [sj]; exact hr) (by rw [sj]; exact hs) D br bs
    · rw [decNlt c, cond_false]
      have : j = 6 := by omega
      subst this
      exact ⟨s6, s7, rs, ss, h, rfl, R.mxr, S.mxr, R.ch, hr, hs⟩
theorem selI_mem {ch : Mx} {j i : Nat} (h : i ∈ selI ch j) : i < j ∧ 0 < (ch.getD i []).length := by
  unfold selI at h
  have := List.mem_filter.1 (List.mem_of_mem_take h)
  exact ⟨List.mem_range.1 this.1, of_decide_eq_true this.2⟩
theorem dec_f (k : Nat) (hk : 1000 < k) {h : H} (w : WF h) {cb : Nat} (C : CodR h cb) {sc : Sl} {cs : Parts} (A : MxR h sc cs) (l6 : cs.length = 6) (hl : ∀ p ∈ cs, p.2.length = 0 ∨ p.2.length = 32) (h4 : (selI (mxv cs) 6).length = 4) {N : Mx} (hN : invP (rowsI (selI (mxv cs) 6)) = some N) :
    ∃ s h', coder_Coder_Decode.f k (some ⟨cb, 0, none⟩) sc h = some ((s, true), h') ∧ Ch0 h h' ∧ SlR 1 h' s (byt (mulM N ((selI (mxv cs) 6).map fun i => (mxv cs).getD i [])).flatten) ∧ (mulM N ((selI (mxv cs) 6).map fun i => (mxv cs).getD i [])).flatten.length = 128 := by
  obtain ⟨fb, sr, qs, c1, c2, c3, c4⟩ := C
  unfold coder_Coder_Decode.f
  rw [decw_f k hk A hl (by omega)]
  simp only [Option.bind_some]
  rw [A.n, l6, show (Int.ofNat 6 != (6 : Int)) = false from rfl]
  simp only [cond_false, Option.bind_some]
  obtain ⟨s6, s7, rs, ss, h1, a1, a2, a3, a4, a5, a6⟩ := dec_l0 k hk w c1 c3 c4 A l6 k 0 h ⟨none, 0, 0⟩ ⟨none, 0, 0⟩ [] [] (by omega) (by omega) (MxO.nil w) (MxO.nil w) rfl rfl (fun b hb => by obtain ⟨o, q⟩ := hb; cases q) (fun p hp => by cases hp) (fun p hp => by cases hp)
  rw [show (0 : Int) = Int.ofNat 0 from rfl, a1]
  simp only [Option.bind_some, nilA, asP_ptr, fadd, Nat.zero_add]
  rw [(c1.stay w a4).ldc, show asP (([.pointer (some ⟨fb, 0, none⟩), slv sr] : List Value)[0]?) = some (some ⟨fb, 0, none⟩) from rfl]
  simp only [Option.bind_some]
  have m6 : ∀ i ∈ selI (mxv cs) 6, i < 6 := fun i hi => (selI_mem hi).1
  have d6 : Dim 4 4 (rowsI (selI (mxv cs) 6)) := by have := rowsI_dim m6; rwa [h4] at this
  have M6 : MxI h1 s6 4 4 (rowsI (selI (mxv cs) 6)) := ⟨rs, a2, a5, d6⟩
  have d7 : Dim 4 32 ((selI (mxv cs) 6).map fun i => (mxv cs).getD i []) := ⟨by rw [List.length_map]; exact h4, fun r hr => by
    obtain ⟨i, hi, rfl⟩ := List.mem_map.1 hr
    obtain ⟨i1, i2⟩ := selI_mem hi
    have ci : i < cs.length := by omega
    rw [mxv_getD ci] at i2 ⊢
    rcases hl _ (List.getElem_mem ci) with e | e <;> omega⟩
  have M7 : MxI h1 s7 4 32 ((selI (mxv cs) 6).map fun i => (mxv cs).getD i []) := ⟨ss, a3, a6, d7⟩
  obtain ⟨s, ok, h2, b1, b2, b3⟩ := M6.inv k hk a4.wf (c2.stay w a4) (by decide) (by decide)
  rw [b1]
  simp only [Option.bind_some]
  have hO : ok = true ∧ MxI h2 s 4 4 N := by
    rcases b3 with ⟨_, u⟩ | ⟨x, u1, u2, u3, _⟩
    · rw [hN] at u; cases u
    · rw [hN] at u2; cases u2; exact ⟨u1, u3⟩
  rw [hO.1]
  simp only [Bool.not_true, cond_false, M7.n, Option.bind_some]
  rw [show decide (Int.ofNat 4 < (4 : Int)) = false from rfl]
  simp only [cond_false]
  have c02 := a4.then b2
  rw [(c1.stay w c02).ldc, show asP (([.pointer (some ⟨fb, 0, none⟩), slv sr] : List Value)[0]?) = some (some ⟨fb, 0, none⟩) from rfl]
  simp only [Option.bind_some]
  obtain ⟨sq, h3, d1, d2, d3⟩ := hO.2.mul k hk b2.wf (c2.stay w c02) (M7.stay a4.wf b2) (by decide) (by decide) (by decide) (by decide) (by decide) (by decide)
  rw [d1]
  simp only [Option.bind_some]
  obtain ⟨os, e1, e2, e3⟩ := d3
  have ol : os.length = 4 := by rw [← mxv_len, e2]; exact e3.n
  have jl : (joined os).length = 128 := by
    show (mxv os).flatten.length = 128
    rw [e2]; exact (chunks_of e3).2
  obtain ⟨sz, h4', f1, f2, f3, f4⟩ := concat_f k hk d2.wf e1.sl e1.rs (by omega) (by rw [← joined_len, jl]; omega)
  rw [f1]
  refine ⟨sz, h4', rfl, c02.then (d2.then f2), ?_, ?_⟩
  · rw [← e2]; exact f3.slr
  · rw [← e2]; exact jl
end Go.Proofs.Ytnjeafdbifcfhaa.Fw
