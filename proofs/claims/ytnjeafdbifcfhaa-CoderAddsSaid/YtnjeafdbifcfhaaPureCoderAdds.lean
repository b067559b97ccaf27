/- CoderAdds: the law's forward run comes to true. -/
import Derived.Test.YtnjeafdbifcfhaaFwCod3
import Derived.Test.YtnjeafdbifcfhaaFCod
import Derived.Test.YtnjeafdbifcfhaaArCoderAdds
namespace Go.Proofs.Ytnjeafdbifcfhaa
open Go Den Fwd Fw
set_option linter.unusedVariables false
set_option linter.unusedSimpArgs false
theorem Pure.adds_l0 (k : Nat) {h0 : H} (w0 : WF h0) {zb : Nat} (hz : h0.next ≤ zb) (p : Option Addr) {sx sy : Sl} {x y : List UInt8} (X0 : SlR 1 h0 sx (byt x)) (Y0 : SlR 1 h0 sy (byt y)) (hx : x.length = 128) (hy : y.length = 128) : ∀ n i h cur, 128 - i < n → i ≤ 128 → Ch0 h0 h → Is h zb 5 1 (byt cur) → cur.length = 128 → (∀ j, j < i → cur[j]? = (zx x y)[j]?) →
    ∃ h', corbellaw5_CoderAdds.l0 k n p sx sy ⟨some ⟨zb, 0, none⟩, 128, 128⟩ (Int.ofNat 128) (Int.ofNat i) h = some ((), h') ∧ Ch0 h0 h' ∧ Is h' zb 5 1 (byt (zx x y))
  | 0, i, h, cur, hn, _, _, _, _, _ => by omega
  | n + 1, i, h, cur, hn, hi, hc, I, hl, hg => by
    rw [corbellaw5_CoderAdds.l0_succ]
    by_cases c : i < 128
    · rw [decLt c, cond_true]
      obtain ⟨p1, e1, e2⟩ := (X0.stay w0 hc).byte (List.getElem?_eq_getElem (show i < x.length by omega))
      obtain ⟨p2, f1, f2⟩ := (Y0.stay w0 hc).byte (List.getElem?_eq_getElem (show i < y.length by omega))
      rw [e1]
      simp only [asP_ptr, Option.bind_some, e2, asI_int]
      rw [f1]
      simp only [asP_ptr, Option.bind_some, f2, asI_int]
      rw [xor_u8]
      simp only [asI_int, Option.bind_some]
      rw [ixs_ptr c]
      simp only [asP_ptr, Option.bind_some, Nat.zero_add]
      obtain ⟨h1, a1, a2, a3, a4⟩ := cell_set hc.wf I (show i < cur.length by omega) (x[i]'(by omega) ^^^ y[i]'(by omega))
      rw [a1]
      simp only [Option.bind_some]
      rw [wrap_succ (by omega)]
      refine Pure.adds_l0 k w0 hz p X0 Y0 hx hy n (i + 1) h1 _ (by omega) (by omega) (hc.trans a2 fun z hz' f => by omega) a4 (by rw [List.length_set]; exact hl) ?_
      intro j hj
      rw [List.getElem?_set]
      by_cases e : i = j
      · subst e
        rw [if_pos rfl, if_pos (by omega), zx_get, List.getElem?_eq_getElem (show i < x.length by omega), List.getElem?_eq_getElem (show i < y.length by omega)]
      · rw [if_neg e]; exact hg j (by omega)
    · rw [decNlt c, cond_false]
      have : cur = zx x y := by
        apply List.ext_getElem?
        intro j
        by_cases q : j < i
        · exact hg j q
        · rw [List.getElem?_eq_none (by omega), List.getElem?_eq_none (by rw [zx_len (by omega)]; omega)]
      rw [← this]
      exact ⟨h, rfl, hc, I⟩
theorem Pure.adds_l2 (k : Nat) {h : H} {sp sq sr : Sl} {ps qs rs : Parts} (A : MxR h sp ps) (B : MxR h sq qs) (C : MxR h sr rs) {i : Nat} (ip : i < ps.length) (iq : i < qs.length) (ir : i < rs.length) (lp : ps[i].2.length = 32) (lq : qs[i].2.length = 32) (he : rs[i].2 = zx ps[i].2 qs[i].2) (x1 x2 : Int) : ∀ n j, 32 - j < n → j ≤ 32 →
    corbellaw5_CoderAdds.l2 k n sp sq sr (Int.ofNat i) x1 x2 (Int.ofNat 32) (Int.ofNat j) h = some (.inr (), h)
  | 0, j, hn, _ => by omega
  | n + 1, j, hn, hj => by
    rw [corbellaw5_CoderAdds.l2_succ]
    by_cases c : j < 32
    · rw [decLt c, cond_true]
      have lr : rs[i].2.length = 32 := by rw [he, zx_len (by omega)]; exact lp
      obtain ⟨p1, a1, a2⟩ := C.at ir
      rw [a1]
      simp only [asP_ptr, Option.bind_some]
      rw [a2]
      simp only [Option.bind_some]
      obtain ⟨p2, b1, b2⟩ := (C.row ir).byte (List.getElem?_eq_getElem (show j < rs[i].2.length by omega))
      rw [b1]
      simp only [asP_ptr, Option.bind_some, b2, asI_int]
      obtain ⟨p3, c1, c2⟩ := A.at ip
      rw [c1]
      simp only [asP_ptr, Option.bind_some]
      rw [c2]
      simp only [Option.bind_some]
      obtain ⟨p4, d1, d2⟩ := (A.row ip).byte (List.getElem?_eq_getElem (show j < ps[i].2.length by omega))
      rw [d1]
      simp only [asP_ptr, Option.bind_some, d2, asI_int]
      obtain ⟨p5, e1, e2⟩ := B.at iq
      rw [e1]
      simp only [asP_ptr, Option.bind_some]
      rw [e2]
      simp only [Option.bind_some]
      obtain ⟨p6, f1, f2⟩ := (B.row iq).byte (List.getElem?_eq_getElem (show j < qs[i].2.length by omega))
      rw [f1]
      simp only [asP_ptr, Option.bind_some, f2, asI_int]
      rw [xor_u8]
      simp only [asI_int, Option.bind_some]
      have ev : rs[i].2[j]'(by omega) = ps[i].2[j]'(by omega) ^^^ qs[i].2[j]'(by omega) := by
        have h1 : rs[i].2[j]? = (zx ps[i].2 qs[i].2)[j]? := by rw [he]
        rw [zx_get, List.getElem?_eq_getElem (by omega), List.getElem?_eq_getElem (show j < ps[i].2.length by omega), List.getElem?_eq_getElem (show j < qs[i].2.length by omega)] at h1
        exact Option.some.inj h1
      rw [ev, show (Int.ofNat (ps[i].2[j]'(by omega) ^^^ qs[i].2[j]'(by omega)).toNat != Int.ofNat (ps[i].2[j]'(by omega) ^^^ qs[i].2[j]'(by omega)).toNat) = false by simp, cond_false, wrap_succ (by omega)]
      exact Pure.adds_l2 k A B C ip iq ir lp lq he x1 x2 n (j + 1) (by omega) (by omega)
    · rw [decNlt c, cond_false]
theorem Pure.adds_l1 (k : Nat) (hk : 1000 < k) {h : H} {sp sq sr : Sl} {ps qs rs : Parts} (A : MxR h sp ps) (B : MxR h sq qs) (C : MxR h sr rs) (lp : ps.length = 6) (lq : qs.length = 6) (lr : rs.length = 6) (hp : ∀ p ∈ ps, p.2.length = 32) (hq : ∀ p ∈ qs, p.2.length = 32) (he : mxv rs = zm (mxv ps) (mxv qs)) : ∀ n i, 6 - i < n → i ≤ 6 →
    corbellaw5_CoderAdds.l1 k n sp sq sr (Int.ofNat 6) (Int.ofNat i) h = some (.inr (), h)
  | 0, i, hn, _ => by omega
  | n + 1, i, hn, hi => by
    rw [corbellaw5_CoderAdds.l1_succ]
    by_cases c : i < 6
    · rw [decLt c, cond_true]
      have ip : i < ps.length := by omega
      have iq : i < qs.length := by omega
      have ir : i < rs.length := by omega
      have l1 := hp _ (List.getElem_mem ip)
      have l2 := hq _ (List.getElem_mem iq)
      have ei : rs[i].2 = zx ps[i].2 qs[i].2 := by
        have h1 : (mxv rs)[i]? = (zm (mxv ps) (mxv qs))[i]? := by rw [he]
        unfold zm at h1
        rw [List.getElem?_zipWith] at h1
        unfold mxv at h1
        rw [List.getElem?_map, List.getElem?_map, List.getElem?_map, List.getElem?_eq_getElem ip, List.getElem?_eq_getElem iq, List.getElem?_eq_getElem ir] at h1
        exact Option.some.inj h1
      have l3 : rs[i].2.length = 32 := by rw [ei, zx_len (by omega)]; exact l1
      obtain ⟨p1, a1, a2⟩ := A.at ip
      rw [a1]
      simp only [asP_ptr, Option.bind_some]
      rw [a2]
      simp only [Option.bind_some, (A.row ip).n_byt, l1]
      rw [show (Int.ofNat 32 != (32 : Int)) = false from rfl]
      simp only [cond_false]
      obtain ⟨p2, b1, b2⟩ := B.at iq
      rw [b1]
      simp only [asP_ptr, Option.bind_some]
      rw [b2]
      simp only [Option.bind_some, (B.row iq).n_byt, l2]
      rw [show (Int.ofNat 32 != (32 : Int)) = false from rfl]
      simp only [cond_false]
      obtain ⟨p3, c1, c2⟩ := C.at ir
      rw [c1]
      simp only [asP_ptr, Option.bind_some]
      rw [c2]
      simp only [Option.bind_some, (C.row ir).n_byt, l3]
      rw [show (Int.ofNat 32 != (32 : Int)) = false from rfl]
      simp only [cond_false]
      rw [c2]
      simp only [Option.bind_some, (C.row ir).n_byt, l3]
      have := Pure.adds_l2 k A B C ip iq ir l1 l2 ei (Int.ofNat 6) (Int.ofNat i) k 0 (by omega) (by omega)
      rw [show (0 : Int) = Int.ofNat 0 from rfl, this]
      simp only [Option.bind_some]
      rw [wrap_succ (by omega)]
      exact Pure.adds_l1 k hk A B C lp lq lr hp hq he n (i + 1) (by omega) (by omega)
    · rw [decNlt c, cond_false]
theorem Pure.adds_f (k : Nat) (hk : 1000 < k) {h : H} (w : WF h) (a b : Int) : ∃ h', corbellaw5_CoderAdds.f k a b h = some (true, h') := by
  unfold corbellaw5_CoderAdds.f
  obtain ⟨cb, h1, a1, a2, C⟩ := cnew_f k hk w
  rw [a1]
  simp only [Option.bind_some, Bool.not_true, cond_false]
  rw [show binO1 Try.prog .eql 53 (Value.pointer (some ⟨cb, 0, none⟩)) (Value.pointer none) = some (.bool false) from rfl, show asB (some (Value.bool false)) = some false from rfl]
  simp only [Option.bind_some, cond_false]
  obtain ⟨dx, x, h2, b1, b2, b3, b4, b5⟩ := hbytes_f k a 128 (by decide) (by omega) a2.wf
  rw [show (128 : Int) = Int.ofNat 128 from rfl, b1]
  simp only [Option.bind_some]
  obtain ⟨dy, y, h3, c1, c2, c3, c4, c5⟩ := hbytes_f k b 128 (by decide) (by omega) b2.wf
  rw [c1]
  simp only [Option.bind_some]
  obtain ⟨z1, z2, z3⟩ := newZ_ok c2.wf 5 1 (.int .u8 (0 : Int)) 128
  rw [byt_rep] at z3
  generalize newZ h3 5 1 [Value.int .u8 (0 : Int)] 128 = g at z1 z2 z3 ⊢
  have X3 := b4.slr.stay b2.wf c2
  obtain ⟨h4, d1, d2, d3⟩ := Pure.adds_l0 k c2.wf (Nat.le_refl _) (some ⟨cb, 0, none⟩) X3 c4.slr b3 c3 k 0 g _ (by omega) (by omega) z1 z3 (List.length_replicate) (fun j hj => by omega)
  rw [show (0 : Int) = Int.ofNat 0 from rfl, d1]
  simp only [Option.bind_some]
  have X4 := X3.stay c2.wf d2
  have Y4 := c4.slr.stay c2.wf d2
  have zl : (zx x y).length = 128 := by rw [zx_len (by omega)]; exact b3
  have Z4 : SlR 1 h4 ⟨some ⟨h3.next, 0, none⟩, 128, 128⟩ (byt (zx x y)) := SlR.of_is d3 (n := 128) (by rw [byt_len, zl]) (by unfold unk; omega)
  have C4 := C.stay a2.wf ((b2.then c2).then d2)
  obtain ⟨sp, ps, h5, e1, e2, e3⟩ := enc_f k hk d2.wf C4 X4 b3
  rw [e1]
  simp only [Option.bind_some]
  obtain ⟨sq, qs, h6, f1, f2, f3⟩ := enc_f k hk e2.ch.wf (C4.stay d2.wf e2.ch) (Y4.stay d2.wf e2.ch) c3
  rw [f1]
  simp only [Option.bind_some]
  have c46 := e2.ch.then f2.ch
  obtain ⟨sr, rs, h7, g1, g2, g3⟩ := enc_f k hk f2.ch.wf (C4.stay d2.wf c46) (Z4.stay d2.wf c46) zl
  rw [g1]
  simp only [Option.bind_some]
  rw [show ((0 : Int) != Int.ofNat 0) = false from rfl]
  simp only [Option.bind_some, cond_false]
  have A7 := (e2.more (f2.ch.then g2.ch)).mxr
  have B7 := (f2.more g2.ch).mxr
  have C7 := g2.mxr
  have lp : ps.length = 6 := by rw [← PartsR.len (h := h), e3]; rfl
  have lq : qs.length = 6 := by rw [← PartsR.len (h := h), f3]; rfl
  have lr : rs.length = 6 := by rw [← PartsR.len (h := h), g3]; rfl
  simp only [A7.n, B7.n, C7.n, lp, lq, lr]
  rw [show (Int.ofNat 6 != (6 : Int)) = false from rfl]
  simp only [Option.bind_some, cond_false]
  have := Pure.adds_l1 k hk A7 B7 C7 lp lq lr (fun p hp => enc_row b3 _ (by rw [← e3]; exact List.mem_map.2 ⟨p, hp, rfl⟩)) (fun p hp => enc_row c3 _ (by rw [← f3]; exact List.mem_map.2 ⟨p, hp, rfl⟩)) (by rw [e3, f3, g3]; exact enc_zx b3 c3) k 0 (by omega) (by omega)
  rw [this]
  exact ⟨h7, rfl⟩
theorem Pure.CoderAdds : ∀ h x vs, Den.WF h → Den.Dead h → Ar.CoderAdds.R h x vs → Ar.CoderAdds.Q x → ∃ a, Den.encL [.int .i64, .int .i64] a = vs ∧ Den.toldB (Fwd.corbellaw5_CoderAdds.f 1000000 a.1 a.2 h) = true := by
  rintro h ⟨a, b, _⟩ vs w _ ⟨va, vb, rfl, r1, vc, vd, rfl, r2, rfl⟩ _
  obtain rfl := r1
  obtain rfl := r2
  obtain ⟨h', g⟩ := Pure.adds_f 1000000 (by decide) w a b
  exact ⟨(a, b), rfl, (congrArg toldB g).trans rfl⟩
end Go.Proofs.Ytnjeafdbifcfhaa
