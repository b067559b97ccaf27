/- The coder: a stripe's parts, its chunks. No condition. -/
import Derived.Test.YtnjeafdbifcfhaaPbFwCod
namespace Go.Proofs.Ytnjeafdbifcfhaa.Fw
open Go Den Fwd GF
set_option linter.unusedVariables false
set_option linter.unusedSimpArgs false
def chunks (x : List UInt8) : Mx := [x.take 32, (x.drop 32).take 32, (x.drop 64).take 32, (x.drop 96).take 32]
theorem parts_l0 (k : Nat) {h0 w0h : H} {ob b o : Nat} (c : ChI) (hcn : c.n = 32) (hcl : c.len = 128) {x : List UInt8} (hx : x.length = 128) (X0 : h0.gets b o 128 = some (byt x)) (w0 : WF h0) (hob : h0.next ≤ ob) (hbs : ∀ h, Ch (fun z => ob = z ∨ w0h.next ≤ z) w0h h → sameVer w0h h c.bs = true ∧ sameVer w0h h c.bn = true) (hbl : b < h0.next) (hw : Ch0 h0 w0h) (hobl : ob < w0h.next) : ∀ n i h s ps, 5 - i < n → i ≤ 4 → Ch (fun z => ob = z ∨ w0h.next ≤ z) w0h h → Is h ob 37 1 [slv s] → MxO h0 h s ps → (∀ z, SlB s z → w0h.next ≤ z) → (∀ p ∈ ps, ∀ z, SlB p.1 z → z ≠ ob) → mxv ps = (chunks x).take i →
    ∃ h' s' ps', coder_parts.l0 k n (some ⟨ob, 0, none⟩) c b o i w0h h = some h' ∧ Is h' ob 37 1 [slv s'] ∧ MxO h0 h' s' ps' ∧ mxv ps' = chunks x
  | 0, i, h, s, ps, hf, _, _, _, _, _, _, _ => by omega
  | n + 1, i, h, s, ps, hf, hi, hc, I, O, hs, hps, he => by
    rw [coder_parts.l0_succ, hcn, hcl]
    by_cases ci : i < 4
    · have hb : Nat.ble 128 (i * 32) = false := by
        rw [Bool.eq_false_iff, ne_eq, Nat.ble_eq]; omega
      rw [hb, cond_false, I.ldc, show asS (([slv s] : List Value)[0]?) = some s from rfl]
      simp only [Option.bind_some]
      have e32 : Nat.min 32 (128 - i * 32) = 32 := Nat.min_eq_left (by omega)
      rw [e32]
      have cl : (chunks x)[i]? = some ((x.drop (i * 32)).take 32) := by
        have : i = 0 ∨ i = 1 ∨ i = 2 ∨ i = 3 := by omega
        rcases this with rfl | rfl | rfl | rfl <;> rfl
      have gp : h0.gets b (o + i * 32) 32 = some (byt ((x.drop (i * 32)).take 32)) := by
        rw [gets_sub X0 (i := i * 32) (m := 32) (by omega), byt_drop, byt_take]
      have R0 : SlR 1 h0 ⟨some ⟨b, o + i * 32, none⟩, 32, 32⟩ (byt ((x.drop (i * 32)).take 32)) := .inr ⟨b, o + i * 32, rfl, by rw [byt_len, List.length_take, List.length_drop]; show min 32 _ = 32 * 1; omega, gp, .inl ⟨Nat.le_refl _, by show 32 < unk; unfold unk; omega⟩⟩
      have osl : ps.length = i := by
        have := congrArg List.length he
        unfold mxv chunks at this
        rw [List.length_map, List.length_take] at this
        simp only [List.length_cons, List.length_nil] at this
        omega
      obtain ⟨s', h1, f1, f2, f3, f4⟩ := O.push2 ⟨some ⟨b, o + i * 32, none⟩, 32, 32⟩ ((x.drop (i * 32)).take 32) (R0.stay w0 O.ch) (fun z hz f => by obtain ⟨oo, e⟩ := hz; have : b = z := congrArg Addr.block (Option.some.inj e); have := O.fr z f; omega) (by omega)
      rw [show [Value.slice (some ⟨b, o + i * 32, none⟩) 32 32] = [Value.slice (⟨some ⟨b, o + i * 32, none⟩, 32, 32⟩ : Sl).a 32 32] from rfl, f1]
      simp only [Option.bind_some]
      have obh := I.lt O.ch.wf
      have lwh := hc.le
      have I1 := I.keep (f3.keep ob obh fun f => by have := hs ob f; omega)
      obtain ⟨h2, g1, g2, g3, g4⟩ := I1.set f2.ch.wf 0 (slv s') (by show 0 < 1; decide) rfl
      rw [show [Value.slice s'.a s'.n s'.c] = [slv s'] from rfl, g1]
      simp only [Option.bind_some]
      have hs' : ∀ z, SlB s' z → w0h.next ≤ z := fun z hz => (f4 z hz).elim (hs z) fun f => by omega
      have hc2 : Ch (fun z => ob = z ∨ w0h.next ≤ z) w0h h2 := (hc.trans f3 fun z hz f => .inr (hs z f)).trans g2 fun z hz f => .inl f.symm
      obtain ⟨v1, v2⟩ := hbs h2 hc2
      rw [v1, v2, Bool.true_and, cond_true]
      refine parts_l0 k c hcn hcl hx X0 w0 hob hbs hbl hw hobl n (i + 1) h2 s' _ (by omega) (by omega) hc2 g4 (f2.keep g2 (fun z f => by omega) (fun z hz f => by have := hs' z hz; omega) ?_) hs' ?_ ?_
      · intro p hp z hz f
        rcases List.mem_append.1 hp with hp | hp
        · exact hps p hp z hz f
        · obtain rfl := List.mem_singleton.1 hp
          obtain ⟨oo, e⟩ := hz
          have : b = z := congrArg Addr.block (Option.some.inj e)
          omega
      · intro p hp z hz
        rcases List.mem_append.1 hp with hp | hp
        · exact hps p hp z hz
        · obtain rfl := List.mem_singleton.1 hp
          obtain ⟨oo, e⟩ := hz
          have : b = z := congrArg Addr.block (Option.some.inj e)
          omega
      · unfold mxv at he ⊢
        rw [List.map_append, he, show (chunks x).take (i + 1) = (chunks x).take i ++ [(x.drop (i * 32)).take 32] by rw [List.take_add_one (l := chunks x), cl]; rfl]; rfl
    · have hb : Nat.ble 128 (i * 32) = true := by rw [Nat.ble_eq]; omega
      rw [hb, cond_true]
      have e : i = 4 := by omega
      subst e
      exact ⟨h, s, ps, rfl, I, O, he⟩
theorem parts_f (k : Nat) (hk : 1000 < k) {h : H} (w : WF h) {sx : Sl} {x : List UInt8} (r : SlR 1 h sx (byt x)) (hx : x.length = 128) : ∃ s ps h', coder_parts.f k sx h = some (s, h') ∧ MxO h h' s ps ∧ mxv ps = chunks x := by
  obtain ⟨sa, sn, sc⟩ := sx
  unfold coder_parts.f
  dsimp only
  rw [show [Value.slice none 0 0] = [slv ⟨none, 0, 0⟩] from rfl]
  obtain ⟨z1, z2, z3⟩ := newR_ok w 37 1 [slv ⟨none, 0, 0⟩]
  generalize newR h 37 1 [slv ⟨none, 0, 0⟩] = g0 at z1 z2 z3 ⊢
  unfold slices_Chunk_byte_byte.f
  rw [show [Value.slice sa sn sc] = [slv ⟨sa, sn, sc⟩] from rfl]
  obtain ⟨y1, y2, y3⟩ := newR_ok z1.wf 40 1 [slv ⟨sa, sn, sc⟩]
  generalize newR g0 40 1 [slv ⟨sa, sn, sc⟩] = g1 at y1 y2 y3 ⊢
  obtain ⟨x1, x2, x3⟩ := newR_ok y1.wf 3 1 [Value.int .i64 (32 : Int)]
  generalize newR g1 3 1 [Value.int .i64 (32 : Int)] = g2 at x1 x2 x3 ⊢
  rw [x3.ldc, show asI .i64 (([Value.int .i64 (32 : Int)] : List Value)[0]?) = some 32 from asI_int _ _]
  simp only [Option.bind_some]
  rw [decide_eq_false (show ¬ (32 : Int) < (1 : Int) by decide)]
  simp only [cond_false, Option.bind_some]
  have xn : sn = 128 := by have := r.n_byt; rw [hx] at this; exact this
  have Y3 := y3.stay y1.wf x1
  have oc : ∀ {b : Nat} {e es : Nat} {v : Value}, Is g2 b e es [v] → oneCell g2 b = some v := fun {b e es v} I => by
    obtain ⟨B, h1, h2, h3, h4, h5⟩ := I.rowAt
    unfold oneCell
    rw [h1]
    exact h5 0
  have ci : chInfo g2 (some ⟨g0.next, 0, none⟩, some ⟨g1.next, 0, none⟩) = some ⟨g0.next, g1.next, sa, 128, sc, 32⟩ := by
    show (match oneCell g2 g0.next, oneCell g2 g1.next with
      | some (.slice base len cap), some (.int .i64 (.ofNat n)) => some (⟨g0.next, g1.next, base, len, cap, n⟩ : ChI)
      | _, _ => none) = _
    rw [oc Y3, oc x3]
    show some (⟨g0.next, g1.next, sa, sn, sc, 32⟩ : ChI) = _
    rw [xn]
  rw [ci]
  simp only [Option.bind_some]
  rcases r with ⟨e, _⟩ | ⟨b, o, r1, r2, r3, r4⟩
  · have := congrArg List.length e
    rw [byt_len, hx] at this
    cases this
  obtain rfl : sa = some ⟨b, o, none⟩ := r1
  have r3 : h.gets b o (sn * 1) = some (byt x) := r3
  rw [xn, Nat.mul_one] at r3
  have bl : b < h.next := by
    rcases Nat.lt_or_ge b h.next with q | q
    · exact q
    · unfold H.gets at r3; rw [w.dom b q] at r3; cases r3
  have cc : Ch0 h g2 := (z1.then y1).then x1
  have lo : h.next < g2.next := by omega
  have cap : Nat.ble 128 sc = true := by
    rw [Nat.ble_eq]
    rcases r4 with ⟨q, _⟩ | q
    · have q : sn ≤ sc := q
      omega
    · have q : sc = unkOf 1 := q
      rw [q]; unfold unkOf unk; omega
  obtain ⟨h', s', ps, a1, a2, a3, a4⟩ := parts_l0 k (h0 := h) (w0h := g2) (ob := h.next) (b := b) (o := o) ⟨g0.next, g1.next, some ⟨b, o, none⟩, 128, sc, 32⟩ rfl rfl hx r3 w (Nat.le_refl _) (fun hh c => ⟨sameVer_of (c.keep g0.next (by omega) (by omega)), sameVer_of (c.keep g1.next (by omega) (by omega))⟩) bl cc lo k 0 g2 ⟨none, 0, 0⟩ [] (by omega) (by omega) (Ch.refl x1.wf) ((z3.stay z1.wf y1).stay y1.wf x1) ((MxO.nil w).more cc) (fun z hz => by obtain ⟨q, f⟩ := hz; cases f) (fun p hp => by cases hp) rfl
  have go : chGo (fun b0 o0 w0 h0 => coder_parts.l0 k k (some ⟨h.next, 0, none⟩) ⟨g0.next, g1.next, some ⟨b, o, none⟩, 128, sc, 32⟩ b0 o0 0 w0 h0) ⟨g0.next, g1.next, some ⟨b, o, none⟩, 128, sc, 32⟩ g2 = some h' := by
    show cond (Nat.ble 1 32 && Nat.blt (128 + 32) 4611686018427387904 && Nat.ble 128 sc) (coder_parts.l0 k k (some ⟨h.next, 0, none⟩) ⟨g0.next, g1.next, some ⟨b, o, none⟩, 128, sc, 32⟩ b o 0 g2 g2) none = some h'
    rw [cap]
    exact a1
  rw [go]
  simp only [Option.bind_some]
  rw [a2.ldc, show asS (([slv s'] : List Value)[0]?) = some s' from rfl]
  exact ⟨s', ps, h', rfl, a3, a4⟩
theorem chunks_rt {x : List UInt8} (hx : x.length = 128) : RtM (chunks x) := by
  have L : ∀ n, n ≤ 96 → ((x.drop n).take 32).length = 32 := fun n hn => by rw [List.length_take, List.length_drop]; omega
  have l0 : (x.take 32).length = 32 := by rw [List.length_take]; omega
  refine ⟨by show 1 ≤ 4; decide, by show 4 ≤ 64; decide, by show 1 ≤ (x.take 32).length; omega, by show (x.take 32).length ≤ 64; omega, ?_⟩
  intro r hr
  show r.length = (x.take 32).length
  rw [l0]
  simp only [chunks, List.mem_cons, List.not_mem_nil, or_false] at hr
  rcases hr with rfl | rfl | rfl | rfl
  · exact l0
  · exact L 32 (by decide)
  · exact L 64 (by decide)
  · exact L 96 (by decide)
theorem cRows_rt : RtM cRows := (rightM_iff _).1 (by decide +kernel)
def encP (x : List UInt8) : Mx := mulM cRows (chunks x)
theorem enc_f (k : Nat) (hk : 1000 < k) {h : H} (w : WF h) {cb : Nat} (C : CodR h cb) {sx : Sl} {x : List UInt8} (r : SlR 1 h sx (byt x)) (hx : x.length = 128) : ∃ s ps h', coder_Coder_Encode.f k (some ⟨cb, 0, none⟩) sx h = some ((s, 0), h') ∧ MxO h h' s ps ∧ mxv ps = encP x := by
  obtain ⟨fb, sr, qs, c1, c2, c3, c4⟩ := C
  unfold coder_Coder_Encode.f
  rw [r.n_byt, hx, show (Int.ofNat 128 != (128 : Int)) = false from rfl, cond_false]
  simp only [nilA, asP_ptr, Option.bind_some, fadd, Nat.zero_add]
  rw [c1.ldc, c1.ldc, show asP (([.pointer (some ⟨fb, 0, none⟩), slv sr] : List Value)[0]?) = some (some ⟨fb, 0, none⟩) from rfl, show asS (([.pointer (some ⟨fb, 0, none⟩), slv sr] : List Value)[1]?) = some sr from rfl]
  simp only [Option.bind_some]
  obtain ⟨s, ps, h1, a1, a2, a3⟩ := parts_f k hk w r hx
  rw [a1]
  simp only [Option.bind_some]
  obtain ⟨out, os, h2, b1, b2, b3⟩ := mmul_f k hk a2.ch.wf (c2.stay w a2.ch) (c3.stay w a2.ch) a2.mxr (by rw [c4]; exact cRows_rt) (by rw [a3]; exact chunks_rt hx) (by rw [c4, a3]; rfl)
  rw [b1]
  simp only [Option.bind_some]
  have S : ∀ o, same1 h h1 (some (.pointer (some ⟨cb, o, none⟩))) = true := fun o => same1_of (a2.ch.keep cb (c1.lt w) fun f => f)
  simp only [S, Bool.and_self, cond_true]
  refine ⟨out, os, h2, rfl, ⟨a2.ch.then b2.ch, b2.ow, b2.rs, fun b hb => Nat.le_trans a2.ch.le (b2.fr b hb), b2.ds⟩, ?_⟩
  rw [b3, c4, a3]; rfl
end Go.Proofs.Ytnjeafdbifcfhaa.Fw
/- The coder's sums, in plain lists. No condition. -/
namespace Go.Proofs.Ytnjeafdbifcfhaa.Fw
open Go Den Fwd GF
set_option linter.unusedVariables false
set_option linter.unusedSimpArgs false
theorem xor4 (a b c d : UInt8) : (a ^^^ b) ^^^ (c ^^^ d) = (a ^^^ c) ^^^ (b ^^^ d) := by
  rw [UInt8.xor_assoc, ← UInt8.xor_assoc b, UInt8.xor_comm b c, UInt8.xor_assoc c, ← UInt8.xor_assoc]
theorem enc_row {x : List UInt8} (hx : x.length = 128) : ∀ r ∈ encP x, r.length = 32 := fun r hr => by
  obtain ⟨q, _, rfl⟩ := List.mem_map.1 hr
  have : (hd (chunks x)).length = 32 := by show (x.take 32).length = 32; rw [List.length_take]; omega
  rw [this, rowP_len, List.length_replicate]
  intro p hp
  rw [List.length_replicate, (chunks_rt hx).al p hp, this]
theorem PartsR.len {h : H} {ps : Parts} : (mxv ps).length = ps.length := List.length_map _
end Go.Proofs.Ytnjeafdbifcfhaa.Fw
/- The coder's deltas. No condition. -/
namespace Go.Proofs.Ytnjeafdbifcfhaa.Fw
open Go Den Fwd GF
set_option linter.unusedVariables false
set_option linter.unusedSimpArgs false
theorem MxR.sub {h : H} {s : Sl} {ps : Parts} (r : MxR h s ps) {lo hi : Nat} (h1 : lo ≤ hi) (h2 : hi ≤ ps.length) {xlo xhi : Option Int} (hlo : bnd xlo 0 = some lo) (hhi : bnd xhi s.n = some hi) :
    ∃ s', asS (subs 1 (.slice s.a s.n s.c) xlo xhi) = some s' ∧ MxR h s' ((ps.drop lo).take (hi - lo)) ∧ ∀ b, SlB s' b → SlB s b := by
  obtain ⟨s', e1, e2, e3, e4⟩ := subs_ok r.sl h1 (by rw [r.n]; exact h2) hlo hhi
  rw [Nat.mul_one, Nat.mul_one, ← List.map_drop, ← List.map_take] at e3
  exact ⟨s', by rw [e1]; rfl, ⟨e3, fun p hp => r.rs p (List.mem_of_mem_drop (List.mem_of_mem_take hp))⟩, e4⟩
/-! ### a chunk turned -/
end Go.Proofs.Ytnjeafdbifcfhaa.Fw
