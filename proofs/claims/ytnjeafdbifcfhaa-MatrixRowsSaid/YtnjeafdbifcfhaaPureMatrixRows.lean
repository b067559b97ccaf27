/- MatrixRows: the law's forward run comes to true. -/
import Derived.Test.YtnjeafdbifcfhaaFwOwn
import Derived.Test.YtnjeafdbifcfhaaArMatrixRows
namespace Go.Proofs.Ytnjeafdbifcfhaa
open Go Den Fwd Fw
set_option linter.unusedVariables false
set_option linter.unusedSimpArgs false
theorem Pure.rows_l0 (k : Nat) {h : H} {sx sy : Sl} {n i j : Nat} {px py : Parts} (X : MxR h sx px) (Y : MxR h sy py) (dx : Dim n n (mxv px)) (dy : Dim n n (mxv py)) (hi : i < n) (hj : j < n) (hn : n ≤ 64) (he : ∀ r c, r < n → c < n → ent (mxv py) r c = ent (mxv px) r (sw i j c)) : ∀ f r, n - r < f → r ≤ n → corbellaw4_MatrixRows.l0 k f (Int.ofNat n) (Int.ofNat i) (Int.ofNat j) sx true sy (Int.ofNat r) h = some (.inr (), h)
  | 0, r, hf, _ => by omega
  | f + 1, r, hf, hr => by
    rw [corbellaw4_MatrixRows.l0_succ]
    by_cases q : r < n
    · rw [decLt q]
      simp only [cond_true, Option.bind_some]
      obtain ⟨p1, q1, t1, a1, a2, a3, a4, a5⟩ := X.cell dx q hi
      obtain ⟨p1', q2, t1', b1, b2, b3, b4, b5⟩ := X.cell dx q hj
      obtain ⟨p3, q3, t3, c1, c2, c3, c4, c5⟩ := Y.cell dy q hi
      obtain ⟨p3', q4, t3', d1, d2, d3, d4, d5⟩ := Y.cell dy q hj
      rw [a1] at b1
      cases b1
      rw [a2] at b2
      cases b2
      rw [c1] at d1
      cases d1
      rw [c2] at d2
      cases d2
      rw [a1]
      simp only [asP_ptr, Option.bind_some]
      rw [a2]
      simp only [Option.bind_some, a3]
      rw [show (Int.ofNat n != Int.ofNat n) = false by simp]
      simp only [cond_false]
      rw [c1]
      simp only [asP_ptr, Option.bind_some]
      rw [c2]
      simp only [Option.bind_some, c3]
      rw [show (Int.ofNat n != Int.ofNat n) = false by simp]
      simp only [cond_false]
      rw [a2]
      simp only [Option.bind_some]
      rw [a4]
      simp only [asP_ptr, Option.bind_some]
      rw [a5, asI_int]
      simp only [Option.bind_some]
      rw [c2]
      simp only [Option.bind_some]
      rw [d4]
      simp only [asP_ptr, Option.bind_some]
      rw [d5, asI_int]
      simp only [Option.bind_some]
      rw [he r j q hj, show sw i j j = i from if_pos rfl, show ∀ v : Int, (v != v) = false from fun v => by simp]
      simp only [cond_false, Option.bind_some]
      rw [a2]
      simp only [Option.bind_some]
      rw [b4]
      simp only [asP_ptr, Option.bind_some]
      rw [b5, asI_int]
      simp only [Option.bind_some]
      rw [c2]
      simp only [Option.bind_some]
      rw [c4]
      simp only [asP_ptr, Option.bind_some]
      rw [c5, asI_int]
      simp only [Option.bind_some]
      have e : sw i j i = j := by
        unfold sw
        by_cases z : i = j
        · rw [if_pos z]; exact z
        · rw [if_neg z, if_pos rfl]
      rw [he r i q hi, e, show ∀ v : Int, (v != v) = false from fun v => by simp]
      simp only [cond_false]
      rw [wrap_succ (by omega)]
      exact Pure.rows_l0 k X Y dx dy hi hj hn he f (r + 1) (by omega) (by omega)
    · rw [decNlt q]
      simp only [cond_false, Option.bind_some]
theorem Pure.mrows_f (k : Nat) (hk : 1000 < k) {h : H} (w : WF h) (a0 a2 a3 : Int) {sl : Sl} {L : List Int} (RL : SlR 1 h sl (ivs L)) (hL : sl.n = L.length) : ∃ h', corbellaw4_MatrixRows.f k a0 sl a2 a3 h = some (true, h') := by
  unfold corbellaw4_MatrixRows.f
  obtain ⟨h1, x1, x2, F1⟩ := new_f k hk w
  rw [x1]
  simp only [Option.bind_some]
  generalize h.next = fb at F1 ⊢
  rw [pick_f k a0 5 h1 (by decide) (by decide)]
  simp only [Option.bind_some]
  obtain ⟨N0, hN⟩ : ∃ T : Nat, a0 % 5 = Int.ofNat T := ⟨_, nn _ (Int.emod_nonneg a0 (by decide))⟩
  have N1 : N0 < 5 := by have := Int.emod_lt_of_pos a0 (show (0 : Int) < 5 by decide); rw [hN] at this; simp only [Int.ofNat_eq_natCast] at this; omega
  rw [hN, wrap_in (n := (2 : Int) + Int.ofNat N0) (by simp only [Int.ofNat_eq_natCast]; omega) (by simp only [Int.ofNat_eq_natCast]; omega), show (2 : Int) + Int.ofNat N0 = Int.ofNat (2 + N0) from rfl]
  have n0 : 0 < 2 + N0 := by omega
  have n1 : 2 + N0 ≤ 64 := by omega
  generalize 2 + N0 = n at n0 n1 ⊢
  obtain ⟨sa, a, h2, b1, b2, A2⟩ := mof_f k hk x2.wf (RL.stay w x2) hL n n n1 n1
  rw [b1]
  simp only [Option.bind_some]
  have nz : (0 : Int) < Int.ofNat n := by simp only [Int.ofNat_eq_natCast]; omega
  have nz2 : Int.ofNat n ≤ 4611686018427387904 := by simp only [Int.ofNat_eq_natCast]; omega
  rw [pick_f k a2 (Int.ofNat n) h2 nz nz2]
  simp only [Option.bind_some]
  rw [pick_f k a3 (Int.ofNat n) h2 nz nz2]
  simp only [Option.bind_some, Bool.not_true, cond_false]
  have pk : ∀ v : Int, ∃ T : Nat, v % Int.ofNat n = Int.ofNat T ∧ T < n := fun v => by
    have e0 := Int.emod_nonneg v (b := Int.ofNat n) (by omega)
    have e1 := Int.emod_lt_of_pos v nz
    refine ⟨(v % Int.ofNat n).toNat, nn _ e0, ?_⟩
    have := nn _ e0
    rw [this] at e1
    exact Int.ofNat_lt.1 e1
  obtain ⟨i, hi1, hi⟩ := pk a2
  obtain ⟨j, hj1, hj⟩ := pk a3
  rw [hi1, hj1]
  by_cases eq : i = j
  · rw [eq, show ((Int.ofNat j) == (Int.ofNat j)) = true by simp]
    exact ⟨h2, rfl⟩
  rw [show ((Int.ofNat i) == (Int.ofNat j)) = false by rw [beq_eq_false_iff_ne]; exact fun f => eq (Int.ofNat.inj f)]
  simp only [cond_false]
  have F2 := F1.stay x2.wf b2
  obtain ⟨ps, A2, rfl, da⟩ := A2
  have pl : ps.length = n := by rw [← mxv_len]; exact da.n
  have ip : i < ps.length := by omega
  have jp : j < ps.length := by omega
  have rowi : ps[i].2 = (mxv ps).getD i [] := (mxv_getD ip).symm
  have rowj : ps[j].2 = (mxv ps).getD j [] := (mxv_getD jp).symm
  -- a row twice
  obtain ⟨t, h3, c1, O3⟩ := own_m b2.wf A2 (by omega)
  rw [c1]
  simp only [Option.bind_some]
  have A3 := A2.stay b2.wf O3.ch
  obtain ⟨p, e1, e2⟩ := A3.at ip
  rw [e1]
  simp only [asP_ptr, Option.bind_some]
  rw [e2]
  simp only [Option.bind_some]
  obtain ⟨p', h4, f1, f2, O4, f4⟩ := O3.put jp ps[i].1 ps[i].2 (O3.rs _ (List.getElem_mem ip)) (O3.ds _ (List.getElem_mem ip))
  rw [f1]
  simp only [asP_ptr, Option.bind_some]
  rw [f2]
  simp only [Option.bind_some]
  have M4 : MxI h4 t n n ((mxv ps).set j ((mxv ps).getD i [])) := ⟨_, O4.mxr, by rw [mxv_set, rowi], da.set (da.row hi)⟩
  obtain ⟨s5, ok5, h5, g1, g2, g3⟩ := M4.inv k hk O4.ch.wf (F2.stay b2.wf O4.ch) n0 n1
  rw [g1]
  simp only [Option.bind_some]
  have hok5 : ok5 = false := by
    rcases g3 with ⟨u, _⟩ | ⟨x, _, u, _⟩
    · exact u
    · rw [invP_twice (da.set (da.row hi)) hi hj eq (by rw [getD_set (by rw [da.n]; exact hj), if_pos rfl, getD_set (by rw [da.n]; exact hj), if_neg eq])] at u
      cases u
  rw [hok5]
  have c25 := O4.ch.then g2
  -- a row of nothing
  have A5 := A2.stay b2.wf c25
  obtain ⟨t6, h6, i1, O6⟩ := own_m g2.wf A5 (by omega)
  rw [i1]
  simp only [Option.bind_some]
  rw [mkz_ok _ rfl (by omega) (by omega)]
  obtain ⟨z1, z2, z3⟩ := newZ_ok O6.ch.wf 5 1 (.int .u8 (0 : Int)) n
  rw [show asS2 (some (Value.slice (some ⟨h6.next, 0, none⟩) n n, newZ h6 5 1 [Value.int .u8 (0 : Int)] n)) = some ((⟨some ⟨h6.next, 0, none⟩, n, n⟩ : Sl), newZ h6 5 1 [Value.int .u8 (0 : Int)] n) from rfl]
  simp only [Option.bind_some]
  rw [Nat.mul_one, byt_rep] at z3
  generalize newZ h6 5 1 [Value.int .u8 (0 : Int)] n = h7 at z1 z2 z3 ⊢
  have O7 := O6.more z1
  obtain ⟨p8, h8, k1, k2, O8, k4⟩ := O7.put jp ⟨some ⟨h6.next, 0, none⟩, n, n⟩ (List.replicate n 0) (SlR.of_is z3 (n := n) (by rw [byt_len, List.length_replicate, Nat.mul_one]) (by unfold unk; omega)) (fun z hz f => by obtain ⟨o, e⟩ := hz; have : h6.next = z := congrArg Addr.block (Option.some.inj e); have := O6.ow.lt O6.ch.wf f; omega)
  rw [k1]
  simp only [asP_ptr, Option.bind_some]
  rw [k2]
  simp only [Option.bind_some]
  have d8 : Dim n n ((mxv ps).set j (List.replicate n 0)) := da.set List.length_replicate
  have M8 : MxI h8 t6 n n ((mxv ps).set j (List.replicate n 0)) := ⟨_, O8.mxr, mxv_set _ _ _, d8⟩
  have c58 := O8.ch
  obtain ⟨s9, ok9, h9, l1, l2, l3⟩ := M8.inv k hk O8.ch.wf (F2.stay b2.wf (c25.then c58)) n0 n1
  rw [l1]
  simp only [Option.bind_some]
  have hok9 : ok9 = false := by
    rcases l3 with ⟨u, _⟩ | ⟨x, _, u, _⟩
    · exact u
    · rw [invP_zero d8 hj (fun c hc => by
        unfold ent
        rw [getD_set (by rw [da.n]; exact hj), if_pos rfl, List.getD_eq_getElem?_getD, List.getElem?_replicate, if_pos hc]; rfl)] at u
      cases u
  rw [hok9]
  simp only [cond_false, Option.bind_some]
  have c29 := c25.then (c58.then l2)
  -- two rows that change places
  have A9 := A2.stay b2.wf c29
  obtain ⟨ta, ha, m1, Oa⟩ := own_m l2.wf A9 (by omega)
  rw [m1]
  simp only [Option.bind_some]
  have Aa := A9.stay l2.wf Oa.ch
  obtain ⟨p20, n1', n2'⟩ := Aa.at jp
  rw [n1']
  simp only [asP_ptr, Option.bind_some]
  rw [n2']
  simp only [Option.bind_some]
  obtain ⟨p22, o1, o2⟩ := Aa.at ip
  rw [e1] at o1
  cases o1
  rw [o2]
  simp only [Option.bind_some]
  obtain ⟨p24, hb, q1, q2, Ob, q4⟩ := Oa.put ip ps[j].1 ps[j].2 (Oa.rs _ (List.getElem_mem jp)) (Oa.ds _ (List.getElem_mem jp))
  rw [q1]
  simp only [asP_ptr, Option.bind_some]
  rw [q2]
  simp only [Option.bind_some]
  have ri : SlR 1 hb ps[i].1 (byt ps[i].2) := (Oa.rs _ (List.getElem_mem ip)).keep fun z hz => q4.keep z ((Oa.rs _ (List.getElem_mem ip)).blk Oa.ch.wf hz) (Oa.ds _ (List.getElem_mem ip) z hz)
  obtain ⟨p26, hc, r1, r2, Oc, r4⟩ := Ob.put (j := j) (by rw [List.length_set]; exact jp) ps[i].1 ps[i].2 ri (Oa.ds _ (List.getElem_mem ip))
  rw [r1]
  simp only [asP_ptr, Option.bind_some]
  rw [r2]
  simp only [Option.bind_some]
  have Mc : MxI hc ta n n (swapP (mxv ps) i j) := ⟨_, Oc.mxr, by rw [mxv_set, mxv_set]; unfold swapP; rw [rowi, rowj], da.swap hi hj⟩
  have c2c := c29.then Oc.ch
  have Fc := F2.stay b2.wf c2c
  have Ac : MxI hc sa n n (mxv ps) := ⟨ps, A2.stay b2.wf c2c, rfl, da⟩
  obtain ⟨sx, ok, hd, s1, s2, s3⟩ := Ac.inv k hk Oc.ch.wf Fc n0 n1
  rw [s1]
  simp only [Option.bind_some]
  obtain ⟨sy, is, he, t1, t2, t3⟩ := (Mc.stay Oc.ch.wf s2).inv k hk s2.wf (Fc.stay Oc.ch.wf s2) n0 n1
  rw [t1]
  simp only [Option.bind_some]
  rcases invP_swap da hi hj with ⟨ex, ey⟩ | ⟨x, y, ex, ey, dx, dy, hxy⟩
  · have hok : ok = false := by
      rcases s3 with ⟨u, _⟩ | ⟨x, _, u, _⟩
      · exact u
      · rw [ex] at u; cases u
    have his : is = false := by
      rcases t3 with ⟨u, _⟩ | ⟨x, _, u, _⟩
      · exact u
      · rw [ey] at u; cases u
    rw [hok, his]
    simp only [beq_self_eq_true, Bool.not_true, cond_false, Option.bind_some]
    obtain ⟨k', rfl⟩ : ∃ k', k = k' + 1 := ⟨k - 1, by omega⟩
    rw [corbellaw4_MatrixRows.l0_succ]
    have : ((cond (decide ((0 : Int) < Int.ofNat n)) (some (false, he)) (some (false, he))) : Option (Bool × H)) = some (false, he) := by cases decide ((0 : Int) < Int.ofNat n) <;> rfl
    rw [this]
    exact ⟨he, rfl⟩
  · have hX : ok = true ∧ MxI hd sx n n x := by
      rcases s3 with ⟨_, u⟩ | ⟨x', u1, u2, u3, _⟩
      · rw [ex] at u; cases u
      · rw [ex] at u2; cases u2; exact ⟨u1, u3⟩
    have hY : is = true ∧ MxI he sy n n y := by
      rcases t3 with ⟨_, u⟩ | ⟨x', u1, u2, u3, _⟩
      · rw [ey] at u; cases u
      · rw [ey] at u2; cases u2; exact ⟨u1, u3⟩
    rw [hX.1, hY.1]
    have X := hX.2.stay s2.wf t2
    simp only [beq_self_eq_true, Bool.not_true, cond_false, cond_true, Option.bind_some, X.n, hY.2.n]
    rw [show (Int.ofNat n != Int.ofNat n) = false by simp]
    simp only [cond_false, Option.bind_some]
    obtain ⟨px, X, rfl, dx⟩ := X
    obtain ⟨py, Y, rfl, dy⟩ := hY.2
    have := Pure.rows_l0 k X Y dx dy hi hj n1 hxy k 0 (by omega) (Nat.zero_le _)
    rw [show (0 : Int) = Int.ofNat 0 from rfl, this]
    exact ⟨he, rfl⟩
theorem Pure.MatrixRows : ∀ h x vs, Den.WF h → Den.Dead h → Ar.MatrixRows.R h x vs → Ar.MatrixRows.Q x → ∃ a, Den.encL [.int .i64, .sl, .int .i64, .int .i64] a = vs ∧ Den.toldB (Fwd.corbellaw4_MatrixRows.f 1000000 a.1 a.2.1 a.2.2.1 a.2.2.2 h) = true := by
  rintro h ⟨n, l, i, j, _⟩ vs w _ ⟨va, vb, rfl, r1, vc, vd, rfl, r2, ve, vf, rfl, r3, vg, vh, rfl, r4, rfl⟩ _
  obtain rfl := r1
  obtain rfl := r3
  obtain rfl := r4
  obtain ⟨s1, rfl, x1, x2, _⟩ := r2.one (f := fun n => .int .i64 n) (fun h x l r => r) w
  obtain ⟨h', g⟩ := Pure.mrows_f 1000000 (by decide) w n i j x1 x2
  exact ⟨(n, s1, i, j), rfl, (congrArg toldB g).trans rfl⟩
end Go.Proofs.Ytnjeafdbifcfhaa
