/- CoderDeltas: the law's forward run comes to true. -/
import Derived.Test.YtnjeafdbifcfhaaFwCod4
import Derived.Test.YtnjeafdbifcfhaaFCod
import Derived.Test.YtnjeafdbifcfhaaArCoderDeltas
namespace Go.Proofs.Ytnjeafdbifcfhaa
open Go Den Fwd Fw
set_option linter.unusedVariables false
set_option linter.unusedSimpArgs false
theorem Pure.del_l0 (k : Nat) {h : H} {sp sq sr : Sl} {ps qs : Parts} (A : MxR h sp ps) (B : MxR h sr qs) (lp : ps.length = 6) (lq : qs.length = 6) (hp : ∀ p ∈ ps, p.2.length = 32) (hq : ∀ p ∈ qs, p.2.length = 32) : ∀ n i, 6 - i < n → i ≤ 6 →
    corbellaw5_CoderDeltas.l0 k n sp sq sr (Int.ofNat 6) (Int.ofNat i) h = some (.inr (), h)
  | 0, i, hn, _ => by omega
  | n + 1, i, hn, hi => by
    rw [corbellaw5_CoderDeltas.l0_succ]
    by_cases c : i < 6
    · rw [decLt c, cond_true]
      have ip : i < ps.length := by omega
      have iq : i < qs.length := by omega
      obtain ⟨p1, a1, a2⟩ := A.at ip
      rw [a1]
      simp only [asP_ptr, Option.bind_some]
      rw [a2]
      simp only [Option.bind_some, (A.row ip).n_byt, hp _ (List.getElem_mem ip)]
      rw [show (Int.ofNat 32 != (32 : Int)) = false from rfl]
      simp only [cond_false]
      obtain ⟨p2, b1, b2⟩ := B.at iq
      rw [b1]
      simp only [asP_ptr, Option.bind_some]
      rw [b2]
      simp only [Option.bind_some, (B.row iq).n_byt, hq _ (List.getElem_mem iq)]
      rw [show (Int.ofNat 32 != (32 : Int)) = false from rfl]
      simp only [cond_false]
      rw [wrap_succ (by omega)]
      exact Pure.del_l0 k A B lp lq hp hq n (i + 1) (by omega) (by omega)
    · rw [decNlt c, cond_false]
theorem Pure.del_l2 (k : Nat) {h : H} {sp sd sq : Sl} {ps ds qs : Parts} (A : MxR h sp ps) (D : MxR h sd ds) (B : MxR h sq qs) {i : Nat} (ip : 4 + i < ps.length) (id : i < ds.length) (iq : 4 + i < qs.length) (hi : i < 2) (he : ∀ j, j < 32 → ∃ u v z, ps[4 + i].2[j]? = some u ∧ qs[4 + i].2[j]? = some v ∧ ds[i].2[j]? = some z ∧ u ^^^ z = v) : ∀ n j, 32 - j < n → j ≤ 32 →
    corbellaw5_CoderDeltas.l2 k n sp sd sq (Int.ofNat i) (Int.ofNat 32) (Int.ofNat j) h = some (.inr (), h)
  | 0, j, hn, _ => by omega
  | n + 1, j, hn, hj => by
    rw [corbellaw5_CoderDeltas.l2_succ]
    by_cases c : j < 32
    · rw [decLt c, cond_true]
      obtain ⟨u, v, z, h1, h2, h3, h4⟩ := he j c
      rw [wrap_in (n := (4 : Int) + Int.ofNat i) (by simp only [Int.ofNat_eq_natCast]; omega) (by simp only [Int.ofNat_eq_natCast]; omega), show (4 : Int) + Int.ofNat i = Int.ofNat (4 + i) from rfl]
      obtain ⟨p1, a1, a2⟩ := A.at ip
      rw [a1]
      simp only [asP_ptr, Option.bind_some]
      rw [a2]
      simp only [Option.bind_some]
      obtain ⟨p2, b1, b2⟩ := (A.row ip).byte h1
      rw [b1]
      simp only [asP_ptr, Option.bind_some, b2, asI_int]
      obtain ⟨p3, c1, c2⟩ := D.at id
      rw [c1]
      simp only [asP_ptr, Option.bind_some]
      rw [c2]
      simp only [Option.bind_some]
      obtain ⟨p4, d1, d2⟩ := (D.row id).byte h3
      rw [d1]
      simp only [asP_ptr, Option.bind_some, d2, asI_int]
      rw [xor_u8, h4]
      simp only [asI_int, Option.bind_some]
      obtain ⟨p5, e1, e2⟩ := B.at iq
      rw [e1]
      simp only [asP_ptr, Option.bind_some]
      rw [e2]
      simp only [Option.bind_some]
      obtain ⟨p6, f1, f2⟩ := (B.row iq).byte h2
      rw [f1]
      simp only [asP_ptr, Option.bind_some, f2, asI_int]
      rw [show (Int.ofNat v.toNat != Int.ofNat v.toNat) = false by simp, cond_false, wrap_succ (by omega)]
      exact Pure.del_l2 k A D B ip id iq hi he n (j + 1) (by omega) (by omega)
    · rw [decNlt c, cond_false]
theorem Pure.del_l1 (k : Nat) (hk : 1000 < k) {h : H} {sp sd sq : Sl} {ps ds qs : Parts} (A : MxR h sp ps) (D : MxR h sd ds) (B : MxR h sq qs) (lp : ps.length = 6) (ld : ds.length = 2) (lq : qs.length = 6) (hd' : ∀ p ∈ ds, p.2.length = 32) (he : ∀ i (hi : i < 2) j, j < 32 → ∃ u v z, (ps[4 + i]'(by omega)).2[j]? = some u ∧ (qs[4 + i]'(by omega)).2[j]? = some v ∧ (ds[i]'(by omega)).2[j]? = some z ∧ u ^^^ z = v) : ∀ n i, 2 - i < n → i ≤ 2 →
    corbellaw5_CoderDeltas.l1 k n sp sd sq (Int.ofNat i) h = some (.inr (), h)
  | 0, i, hn, _ => by omega
  | n + 1, i, hn, hi => by
    rw [corbellaw5_CoderDeltas.l1_succ]
    by_cases c : i < 2
    · rw [decide_eq_true (show Int.ofNat i < (2 : Int) by simp only [Int.ofNat_eq_natCast]; omega), cond_true]
      have id : i < ds.length := by omega
      obtain ⟨p1, a1, a2⟩ := D.at id
      rw [a1]
      simp only [asP_ptr, Option.bind_some]
      rw [a2]
      simp only [Option.bind_some, (D.row id).n_byt, hd' _ (List.getElem_mem id)]
      rw [show (Int.ofNat 32 != (32 : Int)) = false from rfl]
      simp only [cond_false]
      have := Pure.del_l2 k A D B (i := i) (by omega) id (by omega) c (he i c) k 0 (by omega) (by omega)
      rw [show (0 : Int) = Int.ofNat 0 from rfl, this]
      simp only [Option.bind_some]
      rw [wrap_succ (by omega)]
      exact Pure.del_l1 k hk A D B lp ld lq hd' he n (i + 1) (by omega) (by omega)
    · rw [decide_eq_false (show ¬ Int.ofNat i < (2 : Int) by simp only [Int.ofNat_eq_natCast]; omega), cond_false]
theorem Pure.mxv_get {ps : Parts} {m : Mx} (e : mxv ps = m) {i : Nat} (hi : i < ps.length) : m[i]? = some ps[i].2 := by
  rw [← e]
  unfold mxv
  rw [List.getElem?_map, List.getElem?_eq_getElem hi]; rfl
theorem Pure.del_f (k : Nat) (hk : 1000 < k) {h : H} (w : WF h) (seed index now : Int) : ∃ h', corbellaw5_CoderDeltas.f k seed index now h = some (true, h') := by
  unfold corbellaw5_CoderDeltas.f
  obtain ⟨cb, h1, a1, a2, C⟩ := cnew_f k hk w
  rw [a1]
  simp only [Option.bind_some, Bool.not_true, cond_false]
  rw [show binO1 Try.prog .eql 53 (Value.pointer (some ⟨cb, 0, none⟩)) (Value.pointer none) = some (.bool false) from rfl, show asB (some (Value.bool false)) = some false from rfl]
  simp only [Option.bind_some, cond_false]
  rw [pick_f k index 4 h1 (by decide) (by decide)]
  obtain ⟨i, hi⟩ : ∃ N : Nat, index % 4 = Int.ofNat N := ⟨_, nn _ (Int.emod_nonneg _ (by decide))⟩
  have hi4 : i < 4 := by have := Int.emod_lt_of_pos index (show (0 : Int) < 4 by decide); rw [hi] at this; simp only [Int.ofNat_eq_natCast] at this; omega
  rw [hi]
  simp only [Option.bind_some]
  obtain ⟨ds, s, h2, b1, b2, b3, b4, b5⟩ := hbytes_f k seed 128 (by decide) (by omega) a2.wf
  rw [show (128 : Int) = Int.ofNat 128 from rfl, b1]
  simp only [Option.bind_some]
  obtain ⟨sp, ps, h3, c1, c2, c3⟩ := enc_f k hk b2.wf (C.stay a2.wf b2) b4.slr b3
  rw [c1]
  simp only [Option.bind_some]
  obtain ⟨dn, x, h4, d1, d2, d3, d4, d5⟩ := hbytes_f k now 32 (by decide) (by omega) c2.ch.wf
  rw [show (32 : Int) = Int.ofNat 32 from rfl, d1]
  simp only [Option.bind_some]
  have c24 := c2.ch.then d2
  have S4 := b4.slr.stay b2.wf c24
  rw [show Int.ofNat i * Int.ofNat 32 = Int.ofNat (i * 32) from rfl]
  rw [wrap_in (n := Int.ofNat (i * 32)) (by simp only [Int.ofNat_eq_natCast]; omega) (by simp only [Int.ofNat_eq_natCast]; omega), wrap_succ (by omega), show Int.ofNat (i + 1) * Int.ofNat 32 = Int.ofNat ((i + 1) * 32) from rfl, wrap_in (n := Int.ofNat ((i + 1) * 32)) (by simp only [Int.ofNat_eq_natCast]; omega) (by simp only [Int.ofNat_eq_natCast]; omega)]
  obtain ⟨s8, e1, e2, e3, e4⟩ := subb_ok S4 (lo := i * 32) (hi := (i + 1) * 32) (by omega) (by omega) (xlo := some (Int.ofNat (i * 32))) (xhi := some (Int.ofNat ((i + 1) * 32))) rfl rfl
  rw [e1]
  simp only [asS_slv, Option.bind_some]
  rw [show (i + 1) * 32 - i * 32 = 32 by omega] at e3
  have l8 : ((s.drop (i * 32)).take 32).length = 32 := by rw [List.length_take, List.length_drop]; omega
  obtain ⟨sd, dd, h5, f1, f2, f3⟩ := delta_f k hk d2.wf (C.stay a2.wf (b2.then c24)) e3 d4.slr l8 d3 i hi4
  rw [f1]
  simp only [Option.bind_some]
  have c25 := c24.then f2.ch
  obtain ⟨t, h6, g1, g2, g3, g4, g5, g6, g7⟩ := own_b f2.ch.wf (b4.slr.stay b2.wf c25) (by omega)
  rw [g1]
  simp only [Option.bind_some]
  obtain ⟨tb, tc, i1, i2, i3, i4⟩ := subOwn g6 (lo := i * 32) (by omega)
  rw [i1]
  rw [show asS (some (Value.slice (some ⟨tb, i * 32, none⟩) (s.length - i * 32) tc)) = some (⟨some ⟨tb, i * 32, none⟩, s.length - i * 32, tc⟩ : Sl) from rfl]
  simp only [Option.bind_some]
  have X6 := (d4.slr.stay d2.wf f2.ch).stay f2.ch.wf g2
  obtain ⟨h7, j1, j2, j3, j4⟩ := cpy_ok (l := []) g2.wf (es := 1) (d := ⟨some ⟨tb, i * 32, none⟩, s.length - i * 32, tc⟩) rfl i3 (by rw [byt_len]; show i * 32 + (s.length - i * 32) * 1 ≤ _; omega) X6 (byt_one _)
  rw [j1]
  simp only [asI2, asI_int, Option.bind_some]
  have mn : min dn.n (s.length - i * 32) = 32 := by rw [d4.slr.n_byt, d3]; omega
  have j4 : Is h7 tb 5 1 (over (byt s) (i * 32) ((byt x).take (min dn.n (s.length - i * 32) * 1))) := j4
  rw [mn, byt_take, List.take_of_length_le (by omega), over_byt] at j4
  have tfr : h5.next ≤ tb := g7 tb i2
  have c57 : Ch0 h5 h7 := Ch0.at g2 j2 tfr
  have ol : (ovb s (i * 32) x).length = 128 := by rw [ovb_len (by omega)]; exact b3
  have T7 : SlR 1 h7 t (byt (ovb s (i * 32) x)) := (i4 h7 _ j4 (by omega)).slr
  obtain ⟨sq, qs, h8, k1, k2, k3⟩ := enc_f k hk j2.wf (C.stay a2.wf ((b2.then c25).then c57)) T7 ol
  rw [k1]
  simp only [Option.bind_some]
  rw [show ((0 : Int) != (0 : Int)) = false from rfl]
  simp only [Option.bind_some, cond_false]
  have A8 := (c2.more ((d2.then f2.ch).then (c57.then k2.ch))).mxr
  have D8 := (f2.more (c57.then k2.ch)).mxr
  have B8 := k2.mxr
  have lp : ps.length = 6 := by rw [← PartsR.len (h := h), c3]; rfl
  have lq : qs.length = 6 := by rw [← PartsR.len (h := h), k3]; rfl
  have ld : dd.length = 2 := by rw [← PartsR.len (h := h), f3]; rfl
  simp only [A8.n, B8.n, D8.n, lp, lq, ld]
  rw [show (Int.ofNat 6 != (6 : Int)) = false from rfl, show (Int.ofNat 2 != (2 : Int)) = false from rfl]
  simp only [Option.bind_some, cond_false]
  have := Pure.del_l0 k (sq := sd) A8 B8 lp lq (fun p hp => enc_row b3 _ (by rw [← c3]; exact List.mem_map.2 ⟨p, hp, rfl⟩)) (fun p hp => enc_row ol _ (by rw [← k3]; exact List.mem_map.2 ⟨p, hp, rfl⟩)) k 0 (by omega) (by omega)
  rw [show (0 : Int) = Int.ofNat 0 from rfl, this]
  simp only [Option.bind_some]
  have := Pure.del_l1 k hk A8 D8 B8 lp ld lq (fun p hp => by
    have : p.2 ∈ mxv dd := List.mem_map.2 ⟨p, hp, rfl⟩
    rw [f3] at this
    obtain ⟨r, _, e⟩ := List.mem_map.1 this
    rw [← e, dlt_len (by omega)]; exact l8) (fun i' hi' j hj => by
    have r1 := Pure.mxv_get c3 (i := 4 + i') (by omega)
    have r2 := Pure.mxv_get k3 (i := 4 + i') (by omega)
    have r3 := Pure.mxv_get f3 (i := i') (by omega)
    rw [enc_get b3] at r1
    rw [enc_get ol, chunks_ovb b3 d3 hi4] at r2
    rw [List.getElem?_map, List.getElem?_drop] at r3
    have hc : ∃ row, cRows[4 + i']? = some row ∧ row.length = 4 := by
      have : i' = 0 ∨ i' = 1 := by omega
      rcases this with rfl | rfl
      · exact ⟨_, rfl, rfl⟩
      · exact ⟨_, rfl, rfl⟩
    obtain ⟨row, hc1, hc2⟩ := hc
    rw [hc1] at r1 r2 r3
    have r1 := Option.some.inj r1
    have r2 := Option.some.inj r2
    have r3 := Option.some.inj r3
    rw [← r1, ← r2, ← r3]
    exact turn_row b3 hi4 d3 row hc2 hj) k 0 (by omega) (by omega)
  rw [this]
  exact ⟨h8, rfl⟩
theorem Pure.CoderDeltas : ∀ h x vs, Den.WF h → Den.Dead h → Ar.CoderDeltas.R h x vs → Ar.CoderDeltas.Q x → ∃ a, Den.encL [.int .i64, .int .i64, .int .i64] a = vs ∧ Den.toldB (Fwd.corbellaw5_CoderDeltas.f 1000000 a.1 a.2.1 a.2.2 h) = true := by
  rintro h ⟨a, b, c, _⟩ vs w _ ⟨va, vb, rfl, r1, vc, vd, rfl, r2, ve, vf, rfl, r3, rfl⟩ _
  obtain rfl := r1
  obtain rfl := r2
  obtain rfl := r3
  obtain ⟨h', g⟩ := Pure.del_f 1000000 (by decide) w a b c
  exact ⟨(a, b, c), rfl, (congrArg toldB g).trans rfl⟩
end Go.Proofs.Ytnjeafdbifcfhaa
