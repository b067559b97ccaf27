/- The coder: made, a stripe's parts, its chunks. No condition. -/
import Derived.Test.YtnjeafdbifcfhaaPbFwMat
namespace Go.Proofs.Ytnjeafdbifcfhaa.Fw
open Go Den Fwd GF
set_option linter.unusedVariables false
set_option linter.unusedSimpArgs false
theorem MxO.keep {g0 h h' : H} {s : Sl} {ps : Parts} (o : MxO g0 h s ps) {F : Nat → Prop} (c : Ch F h h') (h1 : ∀ x, F x → g0.next ≤ x) (h2 : ∀ x, SlB s x → ¬ F x) (h3 : ∀ p ∈ ps, ∀ x, SlB p.1 x → ¬ F x) : MxO g0 h' s ps where
  ch := o.ch.trans c fun x hx f => by have := h1 x f; omega
  ow := o.ow.keep fun b hb => c.keep b (o.ow.lt o.ch.wf hb) (h2 b hb)
  rs := fun p hp => (o.rs p hp).keep fun b hb => c.keep b ((o.rs p hp).blk o.ch.wf hb) (h3 p hp b hb)
  fr := o.fr
  ds := o.ds
/-! ### the identity -/
def idRow (n i : Nat) : List UInt8 := (List.replicate n 0).set i 1
def idM (n : Nat) : Mx := (List.range n).map (idRow n)
theorem set_mid {α : Type} (A : List α) (z v : α) (m : Nat) : (A ++ List.replicate (m + 1) z).set A.length v = A ++ [v] ++ List.replicate m z := by
  rw [List.set_append_right _ _ (Nat.le_refl _), Nat.sub_self, List.replicate_succ, List.set_cons_zero, List.append_assoc]; rfl
theorem id_l0 (k : Nat) {h0 : H} {sb : Nat} (hsb : h0.next ≤ sb) (n : Nat) (hn : n ≤ 64) : ∀ fuel i h (ps : Parts), n - i < fuel → i ≤ n → Ch0 h0 h → Is h sb 40 1 ((ps.map fun p => slv p.1) ++ List.replicate (n - i) (slv ⟨none, 0, 0⟩)) → ps.length = i → PartsR h ps → (∀ p ∈ ps, ∀ b, SlB p.1 b → b ≠ sb) → mxv ps = (List.range i).map (idRow n) →
    ∃ h' ps', matrix_Identity.l0 k fuel (Int.ofNat n) ⟨some ⟨sb, 0, none⟩, n, n⟩ (Int.ofNat n) (Int.ofNat i) h = some ((), h') ∧ Ch0 h0 h' ∧ Is h' sb 40 1 (ps'.map fun p => slv p.1) ∧ PartsR h' ps' ∧ (∀ p ∈ ps', ∀ b, SlB p.1 b → b ≠ sb) ∧ mxv ps' = idM n
  | 0, i, h, ps, hf, _, _, _, _, _, _, _ => by omega
  | fuel + 1, i, h, ps, hf, hi, hc, I, hl, hr, hd', he => by
    rw [matrix_Identity.l0_succ]
    by_cases c : i < n
    · rw [decLt c, cond_true, mkz_ok _ rfl (by omega) (by omega)]
      rw [show asS2 (some (Value.slice (some ⟨h.next, 0, none⟩) n n, newZ h 5 1 [Value.int .u8 (0 : Int)] n)) = some ((⟨some ⟨h.next, 0, none⟩, n, n⟩ : Sl), newZ h 5 1 [Value.int .u8 (0 : Int)] n) from rfl]
      simp only [Option.bind_some]
      obtain ⟨z1, z2, z3⟩ := newZ_ok hc.wf 5 1 (.int .u8 (0 : Int)) n
      rw [Nat.mul_one, byt_rep] at z3
      generalize newZ h 5 1 [Value.int .u8 (0 : Int)] n = g1 at z1 z2 z3 ⊢
      have I1 := I.stay hc.wf z1
      have sbl := I.lt hc.wf
      rw [ixs_ptr c]
      simp only [asP_ptr, Option.bind_some, Nat.zero_add]
      have cl : ((ps.map fun p => slv p.1) ++ List.replicate (n - i) (slv ⟨none, 0, 0⟩)).length = n := by rw [List.length_append, List.length_map, List.length_replicate]; omega
      obtain ⟨g2, a1, a2, a3, a4⟩ := I1.set z1.wf i (slv ⟨some ⟨h.next, 0, none⟩, n, n⟩) (by rw [cl]; exact c) rfl
      rw [show [Value.slice (some ⟨h.next, 0, none⟩) n n] = [slv ⟨some ⟨h.next, 0, none⟩, n, n⟩] from rfl, a1]
      simp only [Option.bind_some]
      have sm : ((ps.map fun p => slv p.1) ++ List.replicate (n - i) (slv ⟨none, 0, 0⟩)).set i (slv ⟨some ⟨h.next, 0, none⟩, n, n⟩) = (ps.map fun p => slv p.1) ++ [slv ⟨some ⟨h.next, 0, none⟩, n, n⟩] ++ List.replicate (n - (i + 1)) (slv ⟨none, 0, 0⟩) := by
        have := set_mid (ps.map fun p => slv p.1) (slv ⟨none, 0, 0⟩) (slv ⟨some ⟨h.next, 0, none⟩, n, n⟩) (n - (i + 1))
        rw [List.length_map, hl, show n - (i + 1) + 1 = n - i by omega] at this
        exact this
      rw [sm] at a4
      rw [a4.ldc]
      rw [show asS (((ps.map fun p => slv p.1) ++ [slv ⟨some ⟨h.next, 0, none⟩, n, n⟩] ++ List.replicate (n - (i + 1)) (slv ⟨none, 0, 0⟩))[i]?) = some ⟨some ⟨h.next, 0, none⟩, n, n⟩ by
        rw [List.append_assoc, List.getElem?_append_right (by rw [List.length_map]; omega), List.length_map, hl, Nat.sub_self]; rfl]
      simp only [Option.bind_some]
      rw [ixs_ptr c]
      simp only [asP_ptr, Option.bind_some, Nat.zero_add]
      have z4 := z3.keep (a2.keep h.next (by omega) (by omega))
      obtain ⟨g3, b1, b2, b3, b4⟩ := cell_set a2.wf z4 (show i < (List.replicate n (0 : UInt8)).length by rw [List.length_replicate]; exact c) 1
      rw [show [Value.int .u8 (1 : Int)] = [Value.int .u8 (Int.ofNat (1 : UInt8).toNat)] from rfl, b1]
      simp only [Option.bind_some]
      rw [wrap_succ (by omega)]
      have hk : ∀ (q : Sl) (y : List UInt8), SlR 1 h q (byt y) → (∀ b, SlB q b → b ≠ sb) → SlR 1 g3 q (byt y) := fun q y rq hq => ((rq.stay hc.wf z1).keep fun b hb => a2.keep b (by have := rq.blk hc.wf hb; omega) (hq b hb)).keep fun b hb => b2.keep b (by have := rq.blk hc.wf hb; omega) (by have := rq.blk hc.wf hb; omega)
      refine id_l0 k hsb n hn fuel (i + 1) g3 (ps ++ [(⟨some ⟨h.next, 0, none⟩, n, n⟩, idRow n i)]) (by omega) (by omega) (((hc.then z1).trans a2 fun x hx f => by omega).trans b2 fun x hx f => by have := hc.le; omega) ?_ (by rw [List.length_append, List.length_singleton, hl]) ?_ ?_ ?_
      · rw [List.map_append]
        exact a4.keep (b2.keep sb (by omega) (by omega))
      · intro p hp
        rcases List.mem_append.1 hp with hp | hp
        · exact hk _ _ (hr p hp) (hd' p hp)
        · obtain rfl := List.mem_singleton.1 hp
          exact SlR.of_is b4 (n := n) (by rw [byt_len, Nat.mul_one]; show ((List.replicate n (0 : UInt8)).set i 1).length = n; rw [List.length_set, List.length_replicate]) (by unfold unk; omega)
      · intro p hp b hb
        rcases List.mem_append.1 hp with hp | hp
        · exact hd' p hp b hb
        · obtain rfl := List.mem_singleton.1 hp
          obtain ⟨o, e⟩ := hb
          have : h.next = b := congrArg Addr.block (Option.some.inj e)
          omega
      · unfold mxv at he ⊢
        rw [List.map_append, he, List.range_succ, List.map_append]; rfl
    · rw [decNlt c, cond_false]
      have e : i = n := by omega
      subst e
      rw [Nat.sub_self, List.replicate_zero, List.append_nil] at I
      exact ⟨h, ps, rfl, hc, I, hr, hd', he⟩
theorem mid_f (k : Nat) (hk : 1000 < k) {h : H} (w : WF h) (n : Nat) (h1 : 1 ≤ n) (hn : n ≤ 64) : ∃ s ps h', matrix_Identity.f k (Int.ofNat n) h = some (s, h') ∧ MxO h h' s ps ∧ mxv ps = idM n ∧ s = ⟨some ⟨h.next, 0, none⟩, n, n⟩ := by
  unfold matrix_Identity.f
  rw [decide_eq_false (show ¬ Int.ofNat n < (1 : Int) by simp only [Int.ofNat_eq_natCast]; omega)]
  simp only [cond_false, Option.bind_some]
  rw [decide_eq_false (show ¬ Int.ofNat n > (64 : Int) by simp only [Int.ofNat_eq_natCast]; omega)]
  simp only [cond_false, Option.bind_some]
  rw [mkz_ok _ rfl (by omega) (by omega)]
  rw [show asS2 (some (Value.slice (some ⟨h.next, 0, none⟩) n n, newZ h 40 1 [Value.slice none 0 0] n)) = some ((⟨some ⟨h.next, 0, none⟩, n, n⟩ : Sl), newZ h 40 1 [Value.slice none 0 0] n) from rfl]
  simp only [Option.bind_some]
  obtain ⟨z1, z2, z3⟩ := newZ_ok w 40 1 (Value.slice none 0 0) n
  rw [Nat.mul_one] at z3
  obtain ⟨h', ps, a1, a2, a3, a4, a5, a6⟩ := id_l0 k (Nat.le_refl _) n hn k 0 _ [] (by omega) (Nat.zero_le _) z1 (by show Is _ _ _ _ (List.replicate n _); exact z3) rfl (fun p hp => by cases hp) (fun p hp => by cases hp) rfl
  rw [show (0 : Int) = Int.ofNat 0 from rfl, a1]
  have pl : ps.length = n := by
    have := congrArg List.length a6
    unfold mxv idM at this
    rw [List.length_map, List.length_map, List.length_range] at this
    exact this
  refine ⟨_, ps, h', rfl, ⟨a2, Ow.of_is a3 (by rw [List.length_map, Nat.mul_one]; exact pl) (by unfold unk; omega), a4, ?_, ?_⟩, a6, rfl⟩
  · intro b hb
    obtain ⟨o, e⟩ := hb
    have : h.next = b := congrArg Addr.block (Option.some.inj e)
    omega
  · intro p hp b hb f
    obtain ⟨o, e⟩ := f
    have : h.next = b := congrArg Addr.block (Option.some.inj e)
    exact a5 p hp b hb this.symm
/-! ### the coder -/
theorem exp_f (k : Nat) {h : H} {fb : Nat} (r : FldR h fb) (n : Nat) (hn : n < 255) : field_Field_Exp.f k (some ⟨fb, 0, none⟩) (Int.ofNat n) h = some (Int.ofNat (X n), h) := by
  unfold field_Field_Exp.f
  simp only [nilA, asP_ptr, Option.bind_some, fadd, Nat.zero_add]
  rw [show (Int.ofNat n).tmod (255 : Int) = Int.ofNat (n % 255) from rfl, Nat.mod_eq_of_lt hn]
  rw [wrap_in (n := Int.ofNat n + 255) (by simp only [Int.ofNat_eq_natCast]; omega) (by simp only [Int.ofNat_eq_natCast]; omega)]
  rw [show (Int.ofNat n + 255).tmod (255 : Int) = Int.ofNat ((n + 255) % 255) from rfl]
  rw [show (n + 255) % 255 = n by omega, ixs_ptr hn]
  simp only [asP_ptr, Option.bind_some, Nat.zero_add]
  rw [r.exp hn, asI_int]; rfl
def fillP : Nat → Nat → List UInt8 → List UInt8
  | 0, _, p => p
  | m + 1, j, p => fillP m (j + 1) (p.set j 1)
def fillQ : Nat → Nat → List UInt8 → List UInt8
  | 0, _, p => p
  | m + 1, j, p => fillQ m (j + 1) (p.set j (UInt8.ofNat (X j)))
def cRows : Mx := [[1, 0, 0, 0], [0, 1, 0, 0], [0, 0, 1, 0], [0, 0, 0, 1], [1, 1, 1, 1], [1, 2, 4, 8]]
theorem cRows_eq : idM 4 ++ [fillP 4 0 (List.replicate 4 0), fillQ 4 0 (List.replicate 4 0)] = cRows := by decide +kernel
theorem cnew_l0 (k : Nat) {h0 : H} (w0 : WF h0) {fb cb pb qb : Nat} (F : FldR h0 fb) {s : Sl} (C : Is h0 cb 85 2 [.pointer (some ⟨fb, 0, none⟩), slv s]) (hpb : h0.next ≤ pb) (hqb : pb < qb) : ∀ m j h p q fuel, m + j = 4 → m < fuel → Ch0 h0 h → Is h pb 5 1 (byt p) → Is h qb 5 1 (byt q) → p.length = 4 → q.length = 4 →
    ∃ h', coder_New.l0 k fuel (some ⟨cb, 0, none⟩) ⟨some ⟨pb, 0, none⟩, 4, 4⟩ ⟨some ⟨qb, 0, none⟩, 4, 4⟩ (Int.ofNat j) h = some ((), h') ∧ Ch0 h0 h' ∧ Is h' pb 5 1 (byt (fillP m j p)) ∧ Is h' qb 5 1 (byt (fillQ m j q))
  | m, j, h, p, q, 0, hm, hf, _, _, _, _, _ => by omega
  | 0, j, h, p, q, fuel + 1, hm, hf, hc, I, J, _, _ => by
    rw [coder_New.l0_succ, decide_eq_false (show ¬ Int.ofNat j < (4 : Int) by simp only [Int.ofNat_eq_natCast]; omega), cond_false]
    exact ⟨h, rfl, hc, I, J⟩
  | m + 1, j, h, p, q, fuel + 1, hm, hf, hc, I, J, hp, hq => by
    rw [coder_New.l0_succ, decide_eq_true (show Int.ofNat j < (4 : Int) by simp only [Int.ofNat_eq_natCast]; omega), cond_true]
    simp only [nilA, asP_ptr, Option.bind_some, fadd, Nat.zero_add]
    rw [(C.stay w0 hc).ldc, show asP (([.pointer (some ⟨fb, 0, none⟩), slv s] : List Value)[0]?) = some (some ⟨fb, 0, none⟩) from rfl]
    simp only [Option.bind_some]
    rw [exp_f k (F.stay w0 hc) j (by omega)]
    simp only [Option.bind_some]
    rw [ixs_ptr (show j < 4 by omega)]
    simp only [asP_ptr, Option.bind_some, Nat.zero_add]
    obtain ⟨h1, a1, a2, a3, a4⟩ := cell_set hc.wf I (show j < p.length by omega) 1
    rw [show [Value.int .u8 (1 : Int)] = [Value.int .u8 (Int.ofNat (1 : UInt8).toNat)] from rfl, a1]
    simp only [Option.bind_some]
    rw [ixs_ptr (show j < 4 by omega)]
    simp only [asP_ptr, Option.bind_some, Nat.zero_add]
    obtain ⟨h2, b1, b2, b3, b4⟩ := cell_set a2.wf (J.keep (a2.keep qb (J.lt hc.wf) (by omega))) (show j < q.length by omega) (UInt8.ofNat (X j))
    have ex : (UInt8.ofNat (X j)).toNat = X j := by
      rw [UInt8.toNat_ofNat']
      exact Nat.mod_eq_of_lt (X_bd j (by omega)).2.1
    rw [ex] at b1
    rw [b1]
    simp only [Option.bind_some]
    rw [wrap_succ (by omega)]
    exact cnew_l0 k w0 F C hpb hqb m (j + 1) h2 _ _ fuel (by omega) (by omega) ((hc.trans a2 fun x hx f => by omega).trans b2 fun x hx f => by omega) (a4.keep (b2.keep pb (by have := I.lt hc.wf; omega) (by omega))) b4 (by rw [List.length_set]; exact hp) (by rw [List.length_set]; exact hq)
def CodR (h : H) (cb : Nat) : Prop := ∃ fb s ps, Is h cb 85 2 [.pointer (some ⟨fb, 0, none⟩), slv s] ∧ FldR h fb ∧ MxR h s ps ∧ mxv ps = cRows
theorem CodR.stay {h h' : H} {cb : Nat} (w : WF h) (c : Ch0 h h') (r : CodR h cb) : CodR h' cb := by
  obtain ⟨fb, s, ps, a, b, d, e⟩ := r
  exact ⟨fb, s, ps, a.stay w c, b.stay w c, d.stay w c, e⟩
theorem cnew_f (k : Nat) (hk : 1000 < k) {h : H} (w : WF h) : ∃ cb h', coder_New.f k h = some (some ⟨cb, 0, none⟩, h') ∧ Ch0 h h' ∧ CodR h' cb := by
  unfold coder_New.f
  obtain ⟨h1, a1, a2, a3⟩ := new_f k hk w
  rw [a1]
  simp only [Option.bind_some]
  obtain ⟨s, ps, h2, b1, b2, b3, b4⟩ := mid_f k hk a2.wf 4 (by decide) (by decide)
  rw [show (4 : Int) = Int.ofNat 4 from rfl, b1]
  simp only [Option.bind_some]
  have F2 := a3.stay a2.wf b2.ch
  rw [show [Value.pointer (some ⟨h.next, 0, none⟩), Value.slice s.a s.n s.c] = [Value.pointer (some ⟨h.next, 0, none⟩), slv s] from rfl]
  obtain ⟨y1, y2, y3⟩ := newR_ok b2.ch.wf 85 2 [Value.pointer (some ⟨h.next, 0, none⟩), slv s]
  generalize newR h2 85 2 [Value.pointer (some ⟨h.next, 0, none⟩), slv s] = g1 at y1 y2 y3 ⊢
  obtain ⟨x1, x2, x3⟩ := newZ_ok y1.wf 5 1 (.int .u8 (0 : Int)) 4
  generalize newZ g1 5 1 [Value.int .u8 (0 : Int)] 4 = g2 at x1 x2 x3 ⊢
  obtain ⟨v1, v2, v3⟩ := newZ_ok x1.wf 5 1 (.int .u8 (0 : Int)) 4
  generalize newZ g2 5 1 [Value.int .u8 (0 : Int)] 4 = g3 at v1 v2 v3 ⊢
  rw [byt_rep] at x3 v3
  have C1 : Ch0 g1 g3 := x1.then v1
  obtain ⟨h3, c1, c2, c3, c4⟩ := cnew_l0 k y1.wf (F2.stay b2.ch.wf y1) y3 (Nat.le_refl _) (show g1.next < g2.next by omega) 4 0 g3 _ _ k rfl (by omega) C1 (x3.stay x1.wf v1) v3 rfl rfl
  rw [show (0 : Int) = Int.ofNat 0 from rfl, c1]
  simp only [Option.bind_some]
  have y5 := y3.stay y1.wf c2
  rw [y5.ldc, show asS (([Value.pointer (some ⟨h.next, 0, none⟩), slv s] : List Value)[1]?) = some s from rfl]
  simp only [Option.bind_some]
  have c12 : Ch0 h2 h3 := y1.then c2
  have O3 := b2.more c12
  generalize hP : (⟨some ⟨g1.next, 0, none⟩, 4, 4⟩ : Sl) = P
  generalize hQ : (⟨some ⟨g2.next, 0, none⟩, 4, 4⟩ : Sl) = Q
  have eP : Value.slice (some ⟨g1.next, 0, none⟩) 4 4 = slv P := by rw [← hP]; rfl
  have eQ : Value.slice (some ⟨g2.next, 0, none⟩) 4 4 = slv Q := by rw [← hQ]; rfl
  rw [eP, eQ]
  have lP : (fillP 4 0 (List.replicate (4 * 1) 0)).length = 4 := rfl
  have lQ : (fillQ 4 0 (List.replicate (4 * 1) 0)).length = 4 := rfl
  have RP : SlR 1 h3 P (byt (fillP 4 0 (List.replicate (4 * 1) 0))) := by rw [← hP]; exact SlR.of_is c3 (n := 4) (by rw [byt_len, lP]) (by unfold unk; omega)
  have RQ : SlR 1 h3 Q (byt (fillQ 4 0 (List.replicate (4 * 1) 0))) := by rw [← hQ]; exact SlR.of_is c4 (n := 4) (by rw [byt_len, lQ]) (by unfold unk; omega)
  obtain ⟨n1, n2, n3⟩ := newR_ok c2.wf 40 1 [slv P, slv Q]
  have hn : s.n = ps.length := O3.mxr.n
  have pl : ps.length = 4 := by rw [← hn, b4]
  obtain ⟨s', h', e1, e2, e3, e4, e5⟩ := apv_ok (by_ := 24) n1.wf (O3.ow.stay c2.wf n1) (by decide) (SlR.of_is n3 (n := 2) rfl (by unfold unk; omega)) (by rw [hn, pl]; show (4 + 2) * 24 ≤ _; omega) rfl
  rw [e1]
  simp only [asS2, Option.bind_some]
  have sfr : ∀ b, SlB s b → b = h1.next := fun b hb => by
    rw [b4] at hb
    obtain ⟨o, e⟩ := hb
    exact (congrArg Addr.block (Option.some.inj e)).symm
  have l2 := b2.ch.le
  have sl2 : h1.next < h2.next := by
    refine O3.ow.lt c2.wf (b := h1.next) (by rw [b4]; exact ⟨0, rfl⟩) |> fun q => ?_
    exact b2.ow.lt b2.ch.wf (b := h1.next) (by rw [b4]; exact ⟨0, rfl⟩)
  have l3 := c2.le
  have y6 := (y5.stay c2.wf n1).keep (e2.keep h2.next (by omega) fun f => by have := sfr _ f; omega)
  obtain ⟨h4, f1, f2, f3, f4⟩ := y6.set e2.wf 1 (slv s') (by show 1 < 2; decide) rfl
  rw [show [Value.slice s'.a s'.n s'.c] = [slv s'] from rfl, f1]
  have s'b : ∀ b, SlB s' b → b = h1.next ∨ h3.next ≤ b := fun b hb => (e5 b hb).imp (sfr b) fun f => by omega
  have KK : ∀ (q : Sl) (y : List UInt8), SlR 1 h3 q (byt y) → (∀ b, SlB q b → b ≠ h1.next ∧ b ≠ h2.next) → SlR 1 h4 q (byt y) := fun q y rq hq => ((rq.stay c2.wf n1).keep fun b hb => e2.keep b (by have := rq.blk c2.wf hb; omega) fun f => (hq b hb).1 (sfr b f)).keep fun b hb => f2.keep b (by have := rq.blk c2.wf hb; have := e2.le; omega) (hq b hb).2
  have el := e2.le
  refine ⟨h2.next, h4, rfl, ?_, h.next, s', ps ++ [(P, fillP 4 0 (List.replicate (4 * 1) 0)), (Q, fillQ 4 0 (List.replicate (4 * 1) 0))], f4, ?_, ⟨?_, ?_⟩, ?_⟩
  · have d1 : Ch0 h h2 := a2.then b2.ch
    have d2 : Ch0 h h3 := d1.then c12
    exact ((d2.then n1).trans e2 fun x hx f => by have := sfr x f; have := a2.le; omega).trans f2 fun x hx f => by have := a2.le; omega
  · have F3 : FldR h3 h.next := F2.stay b2.ch.wf c12
    have hl : h.next < h1.next := Is.lt a2.wf a3
    exact ((F3.stay c2.wf n1).keep (e2.keep h.next (by omega) fun f => by have := sfr _ f; omega)).keep (f2.keep h.next (by omega) (by omega))
  · rw [List.map_append]
    exact (e3.slr.keep fun b hb => f2.keep b (e3.lt e2.wf hb) (by rcases s'b b hb with q | q <;> omega))
  · intro p hp
    rcases List.mem_append.1 hp with hp | hp
    · refine KK _ _ (O3.rs p hp) fun b hb => ⟨fun f => O3.ds p hp b hb (by rw [b4, f]; exact ⟨0, rfl⟩), ?_⟩
      have := (b2.rs p hp).blk b2.ch.wf hb
      omega
    · simp only [List.mem_cons, List.not_mem_nil, or_false] at hp
      rcases hp with rfl | rfl
      · refine KK _ _ RP fun b hb => ?_
        rw [← hP] at hb
        obtain ⟨o, e⟩ := hb
        have : g1.next = b := congrArg Addr.block (Option.some.inj e)
        omega
      · refine KK _ _ RQ fun b hb => ?_
        rw [← hQ] at hb
        obtain ⟨o, e⟩ := hb
        have : g2.next = b := congrArg Addr.block (Option.some.inj e)
        omega
  · unfold mxv at b3 ⊢
    rw [List.map_append, b3]
    exact cRows_eq
end Go.Proofs.Ytnjeafdbifcfhaa.Fw
