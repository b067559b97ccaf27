/- The coder: made, a stripe's parts, its chunks. No condition. -/
import Derived.Test.YtnjeafdbifcfhaaPaFwMat
namespace Go.Proofs.Ytnjeafdbifcfhaa.Fw
open Go Den Fwd GF
set_option linter.unusedVariables false
set_option linter.unusedSimpArgs false
theorem MxO.keep {g0 h h' : H} {s : Sl} {ps : Parts} (o : MxO g0 h s ps) {F : Nat → Prop} (c : Ch F h h') (h1 : ∀ x, F x → g0.next ≤ x) (h2 : ∀ x, SlB s x → ¬ F x) (h3 : ∀ p ∈ ps, ∀ x, SlB p.1 x → ¬ F x) : MxO g0 h' s ps where
  ch := o.ch.trans c fun x hx f => by have := h1 x f; omega
  ow := o.ow.keep fun b hb => c.keep b (o.ow.lt o.ch.wf hb) (h2 b hb)
  rs := fun p hp => (o.rs p hp).keep fun b hb => c.keep b ((o.rs p hp).blk o.ch.wf hb) (h3 p hp b hb)
  fr := o.fr
  ds := o.ds
/-! ### the identity -/
def idRow (n i : Nat) : List UInt8 := (List.replicate n 0).set i 1
def idM (n : Nat) : Mx := (List.range n).map (idRow n)
theorem set_mid {α : Type} (A : List α) (z v : α) (m : Nat) : (A ++ List.replicate (m + 1) z).set A.length v = A ++ [v] ++ List.replicate m z := by
  rw [List.set_append_right _ _ (Nat.le_refl _), Nat.sub_self, List.replicate_succ, List.set_cons_zero, List.append_assoc]; rfl
theorem id_l0 (k : Nat) {h0 : H} {sb : Nat} (hsb : h0.next ≤ sb) (n : Nat) (hn : n ≤ 64) : ∀ fuel i h (ps : Parts), n - i < fuel → i ≤ n → Ch0 h0 h → Is h sb 40 1 ((ps.map fun p => slv p.1) ++ List.replicate (n - i) (slv ⟨none, 0, 0⟩)) → ps.length = i → PartsR h ps → (∀ p ∈ ps, ∀ b, SlB p.1 b → b ≠ sb) → mxv ps = (List.range i).map (idRow n) →
    ∃ h' ps', matrix_Identity.l0 k fuel (Int.ofNat n) ⟨some ⟨sb, 0, none⟩, n, n⟩ (Int.ofNat n) (Int.ofNat i) h = some ((), h') ∧ Ch0 h0 h' ∧ Is h' sb 40 1 (ps'.map fun p => slv p.1) ∧ PartsR h' ps' ∧ (∀ p ∈ ps', ∀ b, SlB p.1 b → b ≠ sb) ∧ mxv ps' = idM n
  | 0, i, h, ps, hf, _, _, _, _, _, _, _ => by omega
  | fuel + 1, i, h, ps, hf, hi, hc, I, hl, hr, hd', he => by
    rw [matrix_Identity.l0_succ]
    by_cases c : i < n
    · rw [decLt c, cond_true, mkz_ok _ rfl (by omega) (by omega)]
      rw [show asS2 (some (Value.slice (some ⟨h.next, 0, none⟩) n n, newZ h 5 1 [Value.int .u8 (0 : Int)] n)) = some ((⟨some ⟨h.next, 0, none⟩, n, n⟩ : Sl), newZ h 5 1 [Value.int .u8 (0 : Int)] n) from rfl]
      simp only [Option.bind_some]
      obtain ⟨z1, z2, z3⟩ := newZ_ok hc.wf 5 1 (.int .u8 (0 : Int)) n
      rw [Nat.mul_one, byt_rep] at z3
      generalize newZ h 5 1 [Value.int .u8 (0 : Int)] n = g1 at z1 z2 z3 ⊢
      have I1 := I.stay hc.wf z1
      have sbl := I.lt hc.wf
      rw [ixs_ptr c]
      simp only [asP_ptr, Option.bind_some, Nat.zero_add]
      have cl : ((ps.map fun p => slv p.1) ++ List.replicate (n - i) (slv ⟨none, 0, 0⟩)).length = n := by rw [List.length_append, List.length_map, List.length_replicate]; omega
      obtain ⟨g2, a1, a2, a3, a4⟩ := I1.set z1.wf i (slv ⟨some ⟨h.next, 0, none⟩, n, n⟩) (by rw [cl]; exact c) rfl
      rw [show [Value.slice (some ⟨h.next, 0, none⟩) n n] = [slv ⟨some ⟨h.next, 0, none⟩, n, n⟩] from rfl, a1]
      simp only [Option.bind_some]
      have sm : ((ps.map fun p => slv p.1) ++ List.replicate (n - i) (slv ⟨none, 0, 0⟩)).set i (slv ⟨some ⟨h.next, 0, none⟩, n, n⟩) = (ps.map fun p => slv p.1) ++ [slv ⟨some ⟨h.next, 0, none⟩, n, n⟩] ++ List.replicate (n - (i + 1)) (slv ⟨none, 0, 0⟩) := by
        have := set_mid (ps.map fun p => slv p.1) (slv ⟨none, 0, 0⟩) (slv ⟨some ⟨h.next, 0, none⟩, n, n⟩) (n - (i + 1))
        rw [List.length_map, hl, show n - (i + 1) + 1 = n - i by omega] at this
        exact this
      rw [sm] at a4
      rw [a4.ldc]
      rw [show asS (((ps.map fun p => slv p.1) ++ [slv ⟨some ⟨h.next, 0, none⟩, n, n⟩] ++ List.replicate (n - (i + 1)) (slv ⟨none, 0, 0⟩))[i]?) = some ⟨some ⟨h.next, 0, none⟩, n, n⟩ by
        rw [List.append_assoc, List.getElem?_append_right (by rw [List.length_map]; omega), List.length_map, hl, Nat.sub_self]; rfl]
      simp only [Option.bind_some]
      rw [ixs_ptr c]
      simp only [asP_ptr, Option.bind_some, Nat.zero_add]
      have z4 := z3.keep (a2.keep h.next (by omega) (by omega))
      obtain ⟨g3, b1, b2, b3, b4⟩ := cell_set a2.wf z4 (show i < (List.replicate n (0 : UInt8)).length by rw [List.length_replicate]; exact c) 1
      rw [show [Value.int .u8 (1 : Int)] = [Value.int .u8 (Int.ofNat (1 : UInt8).toNat)] from rfl, b1]
      simp only [Option.bind_some]
      rw [wrap_succ (by omega)]
      have hk : ∀ (q : Sl) (y : List UInt8), SlR 1 h q (byt y) → (∀ b, SlB q b → b ≠ sb) → SlR 1 g3 q (byt y) := fun q y rq hq => ((rq.stay hc.wf z1).keep fun b hb => a2.keep b (by have := rq.blk hc.wf hb; omega) (hq b hb)).keep fun b hb => b2.keep b (by have := rq.blk hc.wf hb; omega) (by have := rq.blk hc.wf hb; omega)
      refine id_l0 k hsb n hn fuel (i + 1) g3 (ps ++ [(⟨some ⟨h.next, 0, none⟩, n, n⟩, idRow n i)]) (by omega) (by omega) (((hc.then z1).trans a2 fun x hx f => by omega).trans b2 fun x hx f => by have := hc.le; omega) ?_ (by rw [List.length_append, List.length_singleton, hl]) ?_ ?_ ?_
      · rw [List.map_append]
        exact a4.keep (b2.keep sb (by omega) (by omega))
      · intro p hp
        rcases List.mem_append.1 hp with hp | hp
        · exact hk _ _ (hr p hp) (hd' p hp)
        · obtain rfl := List.mem_singleton.1 hp
          exact SlR.of_is b4 (n := n) (by rw [byt_len, Nat.mul_one]; show ((List.replicate n (0 : UInt8)).set i 1).length = n; rw [List.length_set, List.length_replicate]) (by unfold unk; omega)
      · intro p hp b hb
        rcases List.mem_append.1 hp with hp | hp
        · exact hd' p hp b hb
        · obtain rfl := List.mem_singleton.1 hp
          obtain ⟨o, e⟩ := hb
          have : h.next = b := congrArg Addr.block (Option.some.inj e)
          omega
      · unfold mxv at he ⊢
        rw [List.map_append, he, List.range_succ, List.map_append]; rfl
    · rw [decNlt c, cond_false]
      have e : i = n := by omega
      subst e
      rw [Nat.sub_self, List.replicate_zero, List.append_nil] at I
      exact ⟨h, ps, rfl, hc, I, hr, hd', he⟩
theorem mid_f (k : Nat) (hk : 1000 < k) {h : H} (w : WF h) (n : Nat) (h1 : 1 ≤ n) (hn : n ≤ 64) : ∃ s ps h', matrix_Identity.f k (Int.ofNat n) h = some (s, h') ∧ MxO h h' s ps ∧ mxv ps = idM n ∧ s = ⟨some ⟨h.next, 0, none⟩, n, n⟩ := by
  unfold matrix_Identity.f
  rw [decide_eq_false (show ¬ Int.ofNat n < (1 : Int) by simp only [Int.ofNat_eq_natCast]; omega)]
  simp only [cond_false, Option.bind_some]
  rw [decide_eq_false (show ¬ Int.ofNat n > (64 : Int) by simp only [Int.ofNat_eq_natCast]; omega)]
  simp only [cond_false, Option.bind_some]
  rw [mkz_ok _ rfl (by omega) (by omega)]
  rw [show asS2 (some (Value.slice (some ⟨h.next, 0, none⟩) n n, newZ h 40 1 [Value.slice none 0 0] n)) = some ((⟨some ⟨h.next, 0, none⟩, n, n⟩ : Sl), newZ h 40 1 [Value.slice none 0 0] n) from rfl]
  simp only [Option.bind_some]
  obtain ⟨z1, z2, z3⟩ := newZ_ok w 40 1 (Value.slice none 0 0) n
  rw [Nat.mul_one] at z3
  obtain ⟨h', ps, a1, a2, a3, a4, a5, a6⟩ := id_l0 k (Nat.le_refl _) n hn k 0 _ [] (by omega) (Nat.zero_le _) z1 (by show Is _ _ _ _ (List.replicate n _); exact z3) rfl (fun p hp => by cases hp) (fun p hp => by cases hp) rfl
  rw [show (0 : Int) = Int.ofNat 0 from rfl, a1]
  have pl : ps.length = n := by
    have := congrArg List.length a6
    unfold mxv idM at this
    rw [List.length_map, List.length_map, List.length_range] at this
    exact this
  refine ⟨_, ps, h', rfl, ⟨a2, Ow.of_is a3 (by rw [List.length_map, Nat.mul_one]; exact pl) (by unfold unk; omega), a4, ?_, ?_⟩, a6, rfl⟩
  · intro b hb
    obtain ⟨o, e⟩ := hb
    have : h.next = b := congrArg Addr.block (Option.some.inj e)
    omega
  · intro p hp b hb f
    obtain ⟨o, e⟩ := f
    have : h.next = b := congrArg Addr.block (Option.some.inj e)
    exact a5 p hp b hb this.symm
/-! ### the coder -/
def cRows : Mx := [[1, 0, 0, 0], [0, 1, 0, 0], [0, 0, 1, 0], [0, 0, 0, 1], [1, 1, 1, 1], [1, 2, 4, 8]]
def CodR (h : H) (cb : Nat) : Prop := ∃ fb s ps, Is h cb 85 2 [.pointer (some ⟨fb, 0, none⟩), slv s] ∧ FldR h fb ∧ MxR h s ps ∧ mxv ps = cRows
theorem CodR.stay {h h' : H} {cb : Nat} (w : WF h) (c : Ch0 h h') (r : CodR h cb) : CodR h' cb := by
  obtain ⟨fb, s, ps, a, b, d, e⟩ := r
  exact ⟨fb, s, ps, a.stay w c, b.stay w c, d.stay w c, e⟩
end Go.Proofs.Ytnjeafdbifcfhaa.Fw
