/- AskRuns: the law's forward run comes to true. -/
import Derived.Test.YthpkhegoamhgeaaFwRuns
import Derived.Test.YthpkhegoamhgeaaArAskRuns
namespace Go.Proofs.Ythpkhegoamhgeaa
open Go Den Fwd Fw
set_option linter.unusedVariables false
set_option linter.unusedSimpArgs false
theorem Pure.runs_l1 (k : Nat) (hk : 1000 < k) {h0 : H} {sa sb se : Sl} {ps : RqS} (cut : Nat) (hcut : cut ≤ (bytesOf (ps.map (·.1))).length) (hps : ps.length ≤ 8) : ∀ n j h sr, ps.length + 1 - j < n → j ≤ ps.length → RI h0 h sa sb se ps → offs (ps.map (·.1)) j ≤ cut → SlR 1 h sr (byt (cutL (bytesOf (ps.map (·.1))) (offs (ps.map (·.1)) j) cut)) →
    ∃ h' sr' J, corbellaw24_AskRuns.l1 k n (Int.ofNat cut) sa sb se sr (Int.ofNat j) h = some (.inr (sr', Int.ofNat J), h') ∧ RI h0 h' sa sb se ps ∧ J ≤ ps.length ∧ offs (ps.map (·.1)) J ≤ cut ∧ (J = ps.length ∨ cut < offs (ps.map (·.1)) (J + 1)) ∧ sr'.n = cut - offs (ps.map (·.1)) J
  | 0, j, h, sr, hn, _, _, _, _ => by omega
  | n + 1, j, h, sr, hn, hj, I, ho, rs => by
    rw [corbellaw24_AskRuns.l1_succ]
    have hql : (ps.map (·.1)).length = ps.length := List.length_map _
    generalize hB : bytesOf (ps.map (·.1)) = B at hcut rs
    have hBl : B.length ≤ 2624 := by
      have := bytesOf_len (ps.map (·.1)) fun q hq => by obtain ⟨p, hp, rfl⟩ := List.mem_map.1 hq; exact (I.ok p hp).2.1
      rw [hql, hB] at this; omega
    have hcl : (cutL B (offs (ps.map (·.1)) j) cut).length = cut - offs (ps.map (·.1)) j := cutL_len hcut
    obtain ⟨d, h1, a1, a2, a3, a4⟩ := next_f k hk I.ch.wf rs (by omega)
    rw [a1]
    simp only [Rq.tup, Option.bind_some]
    rw [show [Value.int .i64 (0 : Int), Value.int .i64 0, Value.int .u64 0, Value.int .u64 0, Value.int .i64 0, Value.slice none 0 0] = rqV 0 0 0 0 0 ⟨none, 0, 0⟩ from rfl]
    generalize hnx : nextP (cutL B (offs (ps.map (·.1)) j) cut) = nx at a1 a3 ⊢
    rw [show [Value.int .i64 (Int.ofNat nx.1.fl), Value.int .i64 (Int.ofNat nx.1.ty), Value.int .u64 (Int.ofNat nx.1.ck), Value.int .u64 (Int.ofNat nx.1.off), Value.int .i64 (Int.ofNat nx.1.le), Value.slice d.a d.n d.c] = nx.1.vs d from rfl]
    obtain ⟨h2, b1, b2, b3, b4⟩ := box_ok a2.wf 29 6 (rqV 0 0 0 0 0 ⟨none, 0, 0⟩) (nx.1.vs d) rfl rfl rfl
    rw [b1]
    simp only [Option.bind_some]
    have c02 : Ch0 h h2 := a2.then b2
    have I2 : RI h0 h2 sa sb se ps := ⟨I.ch.then c02, I.al.stay I.ch.wf c02, I.bt.stay I.ch.wf c02, I.en.stay I.ch.wf c02, fun p hp => by
      obtain ⟨r1, r2, r3, r4⟩ := I.ok p hp
      exact ⟨r1, r2, r3.stay I.ch.wf c02, r4⟩, I.ab, I.bb, I.eb⟩
    by_cases c : j = ps.length ∨ cut < offs (ps.map (·.1)) (j + 1)
    · -- none
      have e : nx = (Rq.zero, 0, 7) := by
        rw [← hnx]
        rcases c with c | c
        · have : cutL B (offs (ps.map (·.1)) j) cut = [] := by
            apply List.eq_nil_of_length_eq_zero
            rw [hcl, c, ← hql, offs_all, hB]; omega
          rw [this]; exact nextP_few (by decide)
        · by_cases cj : j < ps.length
          · have cj' : j < (ps.map (·.1)).length := by rw [hql]; exact cj
            have e1 : cutL B (offs (ps.map (·.1)) j) cut = (layP (ps.map (·.1))[j] ++ bytesOf ((ps.map (·.1)).drop (j + 1))).take (cut - offs (ps.map (·.1)) j) := by
              unfold cutL; rw [← hB, bytesOf_at _ cj']
            rw [e1]
            refine nextP_short ?_ _ ?_
            · rw [List.getElem_map]; exact (I.ok _ (List.getElem_mem cj)).1
            · rw [offs_succ _ cj'] at c; omega
          · have hj' : j = ps.length := by omega
            have : cutL B (offs (ps.map (·.1)) j) cut = [] := by
              apply List.eq_nil_of_length_eq_zero
              rw [hcl, hj', ← hql, offs_all, hB]; omega
            rw [this]; exact nextP_few (by decide)
      rw [e]
      rw [show (Int.ofNat ((Rq.zero, 0, 7) : Rq × Nat × Nat).2.2 == (7 : Int)) = true from rfl, cond_true]
      exact ⟨h2, sr, j, rfl, I2, hj, ho, c, by rw [rs.n_byt, hcl]⟩
    · have cj : j < ps.length := by omega
      have cj' : j < (ps.map (·.1)).length := by rw [hql]; exact cj
      have cc : offs (ps.map (·.1)) (j + 1) ≤ cut := by omega
      have hq : (ps.map (·.1))[j] = ps[j].1 := List.getElem_map _
      have cs := offs_succ _ cj'
      rw [hq] at cs
      obtain ⟨r1, r2, r3, r4⟩ := I2.ok _ (List.getElem_mem cj)
      have e : nx = (ps[j].1, (layP ps[j].1).length, 0) := by
        rw [← hnx]
        have e1 : cutL B (offs (ps.map (·.1)) j) cut = layP ps[j].1 ++ (bytesOf ((ps.map (·.1)).drop (j + 1))).take (cut - offs (ps.map (·.1)) (j + 1)) := by
          unfold cutL
          rw [← hB, bytesOf_at _ cj', hq, List.take_append, List.take_of_length_le (by omega)]
          congr 2; omega
        rw [e1]
        exact nextP_whole r1 _
      subst e
      dsimp only at a3 b4 ⊢
      rw [show (Int.ofNat 0 == (7 : Int)) = false from rfl, cond_false, show (Int.ofNat 0 != (0 : Int)) = false from rfl, cond_false]
      simp only [Option.bind_some]
      have san : sa.n = ps.length := by have := I2.al.slr.len; rw [rcells_len] at this; omega
      rw [decide_eq_false (show ¬ Int.ofNat j ≥ Int.ofNat sa.n by rw [san]; simp; omega)]
      simp only [cond_false, Option.bind_some]
      rw [show ps[j].1.vs d = rqV _ _ _ _ _ d from rfl] at b4
      rw [Is.rq b4, bindRq]
      obtain ⟨bb, oo, x1, x2⟩ := I2.al.slr.elem (j := j) (by omega)
      rw [x1]
      simp only [asP_ptr, Option.bind_some]
      rw [rcells_at ps cj] at x2
      have x3 : lda 6 h2 (some ⟨bb, oo, none⟩) = some (.agg (rqV (Int.ofNat ps[j].1.fl) (Int.ofNat ps[j].1.ty) (Int.ofNat ps[j].1.ck) (Int.ofNat ps[j].1.off) (Int.ofNat ps[j].1.le) ps[j].2).toArray) := by
        show (match h2.gets bb oo 6 with | some vs => some (Value.agg vs.toArray) | none => none) = _
        rw [x2]; rfl
      rw [x3, bindRq]
      dsimp only
      obtain ⟨h3, s1, s2⟩ := same_f k c02.wf ps[j].1 d ps[j].2 (a3.stay a2.wf b2) r3
      rw [show ((Int.ofNat ps[j].1.fl, Int.ofNat ps[j].1.ty, Int.ofNat ps[j].1.ck, Int.ofNat ps[j].1.off, Int.ofNat ps[j].1.le, d) : RqT) = ps[j].1.tup d from rfl, show ((Int.ofNat ps[j].1.fl, Int.ofNat ps[j].1.ty, Int.ofNat ps[j].1.ck, Int.ofNat ps[j].1.off, Int.ofNat ps[j].1.le, ps[j].2) : RqT) = ps[j].1.tup ps[j].2 from rfl, s1]
      simp only [Option.bind_some, Bool.not_true, cond_false]
      have hl28 : 28 ≤ (layP ps[j].1).length := by rw [layP_len]; omega
      rw [decide_eq_false (show ¬ Int.ofNat (layP ps[j].1).length < (1 : Int) by simp; omega)]
      simp only [cond_false, Option.bind_some]
      rw [decide_eq_false (show ¬ Int.ofNat (layP ps[j].1).length > Int.ofNat sr.n by rw [rs.n_byt, hcl]; simp; omega)]
      simp only [cond_false]
      have c03 : Ch0 h h3 := c02.then s2
      have I3 : RI h0 h3 sa sb se ps := ⟨I.ch.then c03, I.al.stay I.ch.wf c03, I.bt.stay I.ch.wf c03, I.en.stay I.ch.wf c03, fun p hp => by
        obtain ⟨r1, r2, r3, r4⟩ := I.ok p hp
        exact ⟨r1, r2, r3.stay I.ch.wf c03, r4⟩, I.ab, I.bb, I.eb⟩
      obtain ⟨sr', t1, t2, t3, t4⟩ := subb_ok (rs.stay I.ch.wf c03) (lo := (layP ps[j].1).length) (hi := cut - offs (ps.map (·.1)) j) (by omega) (by omega) (xlo := some (Int.ofNat (layP ps[j].1).length)) (xhi := none) rfl (by rw [rs.n_byt, hcl]; rfl)
      rw [t1]
      simp only [asS_slv, Option.bind_some]
      rw [wrap_succ (by omega)]
      refine Pure.runs_l1 k hk cut (by rw [hB]; exact hcut) hps n (j + 1) h3 sr' (by omega) (by omega) I3 cc ?_
      have : cutL (bytesOf (ps.map (·.1))) (offs (ps.map (·.1)) (j + 1)) cut = ((cutL B (offs (ps.map (·.1)) j) cut).drop (layP ps[j].1).length).take (cut - offs (ps.map (·.1)) j - (layP ps[j].1).length) := by
        unfold cutL
        rw [hB, List.drop_take, List.take_take, List.drop_drop, cs, Nat.min_eq_left (by omega)]
        congr 1; omega
      rw [this]; exact t3
theorem Pure.runs_l2 (k : Nat) {h : H} {sa sb se sr : Sl} (ki cut : Nat) {E : List Int} (r : SlR 1 h se (ivs E)) (J : Nat) (hE : E.length ≤ 1000) (hJ : ∀ i n, E[i]? = some n → (n ≤ Int.ofNat cut ↔ i < J)) (hJl : J ≤ E.length) : ∀ n i, E.length - i < n → i ≤ E.length →
    corbellaw24_AskRuns.l2 k n (Int.ofNat cut) sb sr (Int.ofNat ki) se (Int.ofNat E.length) (Int.ofNat (min i J)) (Int.ofNat i) h = some (Int.ofNat J, h)
  | 0, i, hn, _ => by omega
  | n + 1, i, hn, hi => by
    rw [corbellaw24_AskRuns.l2_succ]
    have hl := r.len
    rw [ivs_len, Nat.mul_one] at hl
    by_cases c : i < E.length
    · rw [decide_eq_true (show Int.ofNat i < Int.ofNat E.length by simp; omega), cond_true]
      obtain ⟨p, e1, e2⟩ := r.elem1 (j := i) (by omega)
      rw [ivs_get, List.getElem?_eq_getElem c] at e2
      rw [e1]
      simp only [asP_ptr, Option.bind_some, e2, Option.map_some, asI_int]
      have hj := hJ i _ (List.getElem?_eq_getElem c)
      by_cases d : i < J
      · rw [decide_eq_true (hj.2 d)]
        simp only [cond_true, Option.bind_some]
        rw [Nat.min_eq_left (by omega), wrap_succ (by omega)]
        have := Pure.runs_l2 k (sa := sa) (sb := sb) (sr := sr) ki cut r J hE hJ hJl n (i + 1) (by omega) (by omega)
        rw [Nat.min_eq_left (by omega)] at this
        exact this
      · rw [decide_eq_false (fun f => d (hj.1 f))]
        simp only [cond_false, Option.bind_some]
        rw [Nat.min_eq_right (by omega), wrap_succ (by omega)]
        have := Pure.runs_l2 k (sa := sa) (sb := sb) (sr := sr) ki cut r J hE hJ hJl n (i + 1) (by omega) (by omega)
        rw [Nat.min_eq_right (by omega)] at this
        exact this
    · rw [decide_eq_false (show ¬ Int.ofNat i < Int.ofNat E.length by simp; omega), cond_false, Nat.min_eq_right (by omega)]
theorem Pure.runs_f (k : Nat) (hk : 1000 < k) {h : H} (w : WF h) {s : Sl} (cut0 : Int) (hraw : ∀ h', Ch0 h h' → RawAt h' s) : ∃ h', corbellaw24_AskRuns.f k s cut0 h = some (true, h') := by
  unfold corbellaw24_AskRuns.f
  rw [show (!true) = false from rfl, cond_false]
  have I0 : RI h h ⟨none, 0, 0⟩ ⟨none, 0, 0⟩ ⟨none, 0, 0⟩ [] := by
    have z : ∀ x, ¬ SlB ⟨none, 0, 0⟩ x := fun x hx => by obtain ⟨o, e⟩ := hx; cases e
    exact ⟨Ch.refl w, Ow.nil, Ow.nil, Ow.nil, fun p hp => (by cases hp), fun x hx => absurd hx (z x), fun x hx => absurd hx (z x), fun x hx => absurd hx (z x)⟩
  obtain ⟨h1, sa, sb, se, ps, a1, I, hps⟩ := runs_l0 k hk w cut0 hraw k 0 h _ _ _ [] (by omega) (by omega) I0 rfl
  rw [show (0 : Int) = Int.ofNat 0 from rfl, a1]
  simp only [Option.bind_some]
  have hBl : (bytesOf (ps.map (·.1))).length ≤ 2624 := by
    have := bytesOf_len (ps.map (·.1)) fun q hq => by obtain ⟨p, hp, rfl⟩ := List.mem_map.1 hq; exact (I.ok p hp).2.1
    rw [List.length_map] at this; omega
  have sbn := I.bt.slr.n_byt
  rw [sbn]
  rw [wrap_in (n := Int.ofNat (bytesOf (ps.map (·.1))).length + 1) (by simp only [Int.ofNat_eq_natCast]; omega) (by simp only [Int.ofNat_eq_natCast]; omega), pick_f k _ _ h1 (by simp only [Int.ofNat_eq_natCast]; omega) (by simp only [Int.ofNat_eq_natCast]; omega)]
  obtain ⟨cut, hc⟩ : ∃ T : Nat, cut0 % (Int.ofNat (bytesOf (ps.map (·.1))).length + 1) = Int.ofNat T := ⟨(cut0 % (Int.ofNat (bytesOf (ps.map (·.1))).length + 1)).toNat, (Int.toNat_of_nonneg (Int.emod_nonneg _ (by simp only [Int.ofNat_eq_natCast]; omega))).symm⟩
  have hcut : cut ≤ (bytesOf (ps.map (·.1))).length := by
    have := Int.emod_lt_of_pos cut0 (show (0 : Int) < Int.ofNat (bytesOf (ps.map (·.1))).length + 1 by simp only [Int.ofNat_eq_natCast]; omega)
    rw [hc] at this; simp only [Int.ofNat_eq_natCast] at this; omega
  rw [hc]
  simp only [Option.bind_some]
  obtain ⟨sr, b1, b2, b3, b4⟩ := subb_ok I.bt.slr (lo := 0) (hi := cut) (Nat.zero_le _) hcut (xlo := none) (xhi := some (Int.ofNat cut)) rfl rfl
  rw [sbn] at b1
  rw [b1]
  simp only [asS_slv, Option.bind_some]
  have o0 : offs (ps.map (·.1)) 0 = 0 := by unfold offs bytesOf; simp
  obtain ⟨h2, sr', J, c1, I2, c2, c3, c4, c5⟩ := Pure.runs_l1 k hk cut hcut hps k 0 h1 sr (by omega) (Nat.zero_le _) I (by rw [o0]; exact Nat.zero_le _) (by rw [o0]; exact b3)
  rw [c1]
  simp only [Option.bind_some]
  have El : (endsOf (ps.map (·.1))).length = ps.length := by unfold endsOf; simp
  have sen : se.n = (endsOf (ps.map (·.1))).length := by have := I2.en.slr.len; rw [ivs_len] at this; omega
  have l2 := Pure.runs_l2 k (sa := sa) (sb := sb) (sr := sr') J cut I2.en.slr J (by omega) (fun i n e => by
    unfold endsOf at e
    rw [List.getElem?_map] at e
    have il : i < ps.length := by
      rcases Nat.lt_or_ge i ps.length with q | q
      · exact q
      · rw [List.getElem?_eq_none (by simp; omega)] at e; cases e
    rw [List.getElem?_range (by simp; exact il)] at e
    simp only [Option.map_some, Option.some.injEq] at e
    subst e
    constructor
    · intro f
      have f : offs (ps.map (·.1)) (i + 1) ≤ cut := by simpa using f
      rcases c4 with g | g
      · omega
      · rcases Nat.lt_or_ge i J with q | q
        · exact q
        · have := offs_le (ps.map (·.1)) (show J + 1 ≤ i + 1 by omega); omega
    · intro f
      have := offs_le (ps.map (·.1)) (show i + 1 ≤ J by omega)
      simp only [Int.ofNat_eq_natCast]; omega) (by omega) k 0 (by omega) (Nat.zero_le _)
  rw [Nat.zero_min] at l2
  rw [sen, l2]
  simp only [Option.bind_some, beq_self_eq_true, cond_true]
  by_cases d : cut < (bytesOf (ps.map (·.1))).length
  · rw [decide_eq_true (show Int.ofNat cut < Int.ofNat (bytesOf (ps.map (·.1))).length by simp; omega)]
    exact ⟨h2, rfl⟩
  · rw [decide_eq_false (show ¬ Int.ofNat cut < Int.ofNat (bytesOf (ps.map (·.1))).length by simp; omega)]
    have hJ : J = ps.length := by
      rcases c4 with g | g
      · exact g
      · have : offs (ps.map (·.1)) (J + 1) ≤ (bytesOf (ps.map (·.1))).length := by
          have := offs_le (ps.map (·.1)) (show J + 1 ≤ max (J + 1) (ps.map (·.1)).length by omega)
          have e2 : offs (ps.map (·.1)) (max (J + 1) (ps.map (·.1)).length) = (bytesOf (ps.map (·.1))).length := by
            unfold offs; rw [List.take_of_length_le (by omega)]
          omega
        omega
    have : sr'.n = 0 := by
      rw [c5, hJ]
      have := offs_all (ps.map (·.1))
      rw [List.length_map] at this
      omega
    rw [this]
    exact ⟨h2, rfl⟩
theorem Pure.wf64 {n : Int} (h : (Lit.int .u64 n).wf = true) : ∃ m : Nat, n = Int.ofNat m ∧ m < 18446744073709551616 := by
  unfold Lit.wf at h
  simp only [Bool.and_eq_true, decide_eq_true_eq] at h
  have h0 : (0 : Int) ≤ n := h.1
  have h1 : n ≤ 18446744073709551615 := h.2
  exact ⟨n.toNat, (Int.toNat_of_nonneg h0).symm, by omega⟩
theorem Pure.AskRuns : ∀ h x vs, Den.WF h → Den.Dead h → Ar.AskRuns.R h x vs → Ar.AskRuns.Q x → ∃ a, Den.encL [.sl, .int .i64] a = vs ∧ Den.toldB (Fwd.corbellaw24_AskRuns.f 2000 a.1 a.2 h) = true := by
  rintro h ⟨l, cut, _⟩ vs w _ ⟨va, vb, rfl, r1, vc, vd, rfl, r2, rfl⟩ ⟨⟨_, _, q3⟩, _⟩
  obtain ⟨s, ls, rfl, s1, s2, s3, s4, s5, s6⟩ := RSl.many w (by decide) r1
  have s1 : s.n = l.length := s1
  have s3 : ls.length = l.length := s3
  obtain rfl := r2
  obtain ⟨h', e⟩ := Pure.runs_f 2000 (by decide) w cut (s := s) fun h' c i hi => by
    obtain ⟨b, o, e1, e2⟩ := (s2.stay w c).elem hi
    have hil : i < ls.length := by omega
    have hx : i < l.length := by omega
    have e3 : (ls.flatten.drop (i * 7)).take 7 = ls[i] := by
      apply List.ext_getElem?
      intro j
      have hli : ls[i].length = 7 := s4 _ (List.getElem_mem hil)
      rw [List.getElem?_take]
      by_cases cj : j < 7
      · rw [if_pos cj, List.getElem?_drop]
        have hk : i * 7 + j < ls.flatten.length := by rw [flatten_len ls s4]; omega
        rw [flatten_get ls s4 _ hk, Nat.mul_comm, Nat.mul_add_div (by decide), Nat.div_eq_of_lt cj, Nat.add_zero, Nat.mul_add_mod, Nat.mod_eq_of_lt cj, List.getElem?_eq_getElem hil]; rfl
      · rw [if_neg cj, List.getElem?_eq_none (by omega)]
    rw [e3] at e2
    obtain ⟨x1, y1, e4, z1, x2, y2, rfl, z2, x3, y3, rfl, z3, x4, y4, rfl, z4, x5, y5, rfl, z5, x6, y6, rfl, z6, z7⟩ := s5 i _ _ (List.getElem?_eq_getElem hx) (List.getElem?_eq_getElem hil)
    obtain ⟨t, rfl, _⟩ := z7
    obtain rfl := z1
    obtain rfl := z2
    obtain rfl := z3
    obtain rfl := z4
    obtain rfl := z5
    obtain rfl := z6
    obtain ⟨_, _, _, _, q5, q6, _⟩ := q3 _ (List.getElem_mem hx)
    obtain ⟨ck, k1, k2⟩ := Pure.wf64 q5
    obtain ⟨off, k3, k4⟩ := Pure.wf64 q6
    refine ⟨some ⟨b, o, none⟩, l[i].1, l[i].2.1, l[i].2.2.1, l[i].2.2.2.1, ck, off, t, e1, ?_, k2, k4⟩
    show (match h'.gets b o 7 with | some vs => some (Value.agg vs.toArray) | none => none) = _
    rw [e2, e4, k1, k3]; rfl
  exact ⟨(s, cut), rfl, (congrArg toldB e).trans rfl⟩
end Go.Proofs.Ythpkhegoamhgeaa
