/- Acts on trees: names, sizes, raw acts; the loops of TreeApart. No condition. -/
import Derived.Test.YtfenkpghcbohdaaPaFwActC
import Derived.Test.YtfenkpghcbohdaaPaFwApP
namespace Go.Proofs.Ytfenkpghcbohdaa.Fw
open Go Den Fwd
set_option linter.unusedVariables false
set_option linter.unusedSimpArgs false
theorem size_f (k : Nat) (n : Int) : ∃ sz, ∀ h, corbelhand_Size.f k n h = some (sz, h) := by
  have key : ∀ h, corbelhand_Size.f k n h = some (if n % 17 = 16 then wrapA .i64 (n.tdiv 17) else wrapA .i64 (8 * (n % 5)), h) := fun h => by
    unfold corbelhand_Size.f
    rw [pick_f k n 17 h (by decide) (by decide)]
    simp only [Option.bind_some]
    by_cases c : n % 17 = 16
    · rw [if_pos c, show (n % 17 == (16 : Int)) = true by rw [c]; rfl, cond_true]
    · rw [if_neg c, show (n % 17 == (16 : Int)) = false by rw [beq_eq_false_iff_ne]; exact c, cond_false, pick_f k n 5 h (by decide) (by decide)]
      rfl
  exact ⟨_, key⟩
theorem name2_f (k : Nat) (n : Int) : ∃ nm, (∀ h, corbelhand_Name.f k n h = some (ba nm, h)) ∧ isName nm = true := by
  obtain ⟨j, hj⟩ : ∃ j : Nat, n % 7 = Int.ofNat j := ⟨_, nn _ (Int.emod_nonneg n (by decide))⟩
  have hj2 : j < 7 := by have := Int.emod_lt_of_pos n (show (0 : Int) < 7 by decide); rw [hj] at this; simp only [Int.ofNat_eq_natCast] at this; omega
  have key : ∀ nm, (∀ h : H, (some (Int.ofNat j, h) : Option (Int × H)).bind (fun q1 => (asT (ixv 7 1 #[(Value.string (⟨#[97]⟩ : ByteArray)), (Value.string (⟨#[98]⟩ : ByteArray)), (Value.string (⟨#[99]⟩ : ByteArray)), (Value.string (⟨#[118, 111, 108, 49]⟩ : ByteArray)), (Value.string (⟨#[115, 110, 97, 112]⟩ : ByteArray)), (Value.string (⟨#[122, 122, 57]⟩ : ByteArray)), (Value.string (⟨#[120]⟩ : ByteArray))] q1.1)).bind fun s2 => some (s2, q1.2)) = some (ba nm, h)) → ∀ h, corbelhand_Name.f k n h = some (ba nm, h) := fun nm e h => by
    unfold corbelhand_Name.f
    rw [pick_f k n 7 h (by decide) (by decide), hj]
    exact e h
  rcases (show j = 0 ∨ j = 1 ∨ j = 2 ∨ j = 3 ∨ j = 4 ∨ j = 5 ∨ j = 6 by omega) with rfl | rfl | rfl | rfl | rfl | rfl | rfl
  · exact ⟨[97], key _ (fun h => rfl), by decide +kernel⟩
  · exact ⟨[98], key _ (fun h => rfl), by decide +kernel⟩
  · exact ⟨[99], key _ (fun h => rfl), by decide +kernel⟩
  · exact ⟨[118, 111, 108, 49], key _ (fun h => rfl), by decide +kernel⟩
  · exact ⟨[115, 110, 97, 112], key _ (fun h => rfl), by decide +kernel⟩
  · exact ⟨[122, 122, 57], key _ (fun h => rfl), by decide +kernel⟩
  · exact ⟨[120], key _ (fun h => rfl), by decide +kernel⟩
theorem odd_f (k : Nat) (n : Int) (s : List UInt8) : ∃ nm, (∀ h, corbelhand_Odd.f k n (ba s) h = some (ba nm, h)) ∧ nm.length ≤ 11 + s.length := by
  by_cases c : n % 40 = 38
  · refine ⟨s, fun h => ?_, by omega⟩
    unfold corbelhand_Odd.f
    rw [pick_f k n 40 h (by decide) (by decide)]
    simp only [Option.bind_some]
    rw [show (n % 40 == (38 : Int)) = true by rw [c]; rfl, cond_true]
  · by_cases d : n % 40 = 39
    · obtain ⟨j, hj⟩ : ∃ j : Nat, (wrapA .i64 (n.tdiv 40)) % 4 = Int.ofNat j := ⟨_, nn _ (Int.emod_nonneg _ (by decide))⟩
      have hj2 : j < 4 := by have := Int.emod_lt_of_pos (wrapA .i64 (n.tdiv 40)) (show (0 : Int) < 4 by decide); rw [hj] at this; simp only [Int.ofNat_eq_natCast] at this; omega
      have key : ∀ nm, (∀ h : H, (some (Int.ofNat j, h) : Option (Int × H)).bind (fun q2 => (asT (ixv 4 1 #[(Value.string (⟨#[]⟩ : ByteArray)), (Value.string (⟨#[85, 112, 112, 101, 114]⟩ : ByteArray)), (Value.string (⟨#[116, 111, 111, 108, 111, 110, 103, 110, 97, 109, 101]⟩ : ByteArray)), (Value.string (⟨#[97, 32, 98]⟩ : ByteArray))] q2.1)).bind fun s3 => some (s3, q2.2)) = some (ba nm, h)) → ∀ h, corbelhand_Odd.f k n (ba s) h = some (ba nm, h) := fun nm e h => by
        unfold corbelhand_Odd.f
        rw [pick_f k n 40 h (by decide) (by decide)]
        simp only [Option.bind_some]
        rw [show (n % 40 == (38 : Int)) = false by rw [beq_eq_false_iff_ne]; exact c, show (n % 40 == (39 : Int)) = true by rw [d]; rfl, cond_false, cond_true, pick_f k _ 4 h (by decide) (by decide), hj]
        exact e h
      rcases (show j = 0 ∨ j = 1 ∨ j = 2 ∨ j = 3 by omega) with rfl | rfl | rfl | rfl
      · exact ⟨[], key _ (fun h => rfl), Nat.zero_le _⟩
      · exact ⟨[85, 112, 112, 101, 114], key _ (fun h => rfl), by simp only [List.length_cons, List.length_nil]; omega⟩
      · exact ⟨[116, 111, 111, 108, 111, 110, 103, 110, 97, 109, 101], key _ (fun h => rfl), by simp only [List.length_cons, List.length_nil]; omega⟩
      · exact ⟨[97, 32, 98], key _ (fun h => rfl), by simp only [List.length_cons, List.length_nil]; omega⟩
    · obtain ⟨nm, e, hn⟩ := name2_f k n
      have := nameLen hn
      refine ⟨nm, fun h => ?_, by omega⟩
      unfold corbelhand_Odd.f
      rw [pick_f k n 40 h (by decide) (by decide)]
      simp only [Option.bind_some]
      rw [show (n % 40 == (38 : Int)) = false by rw [beq_eq_false_iff_ne]; exact c, show (n % 40 == (39 : Int)) = false by rw [beq_eq_false_iff_ne]; exact d, cond_false, cond_false, e h]
      rfl
/-! ### raw acts -/
def actL (a b c d e : Int) (s : List UInt8) : List Value := [.int .i64 a, .int .i64 b, .int .i64 c, .int .i64 d, .int .i64 e, .string (ba s)]
def zAct : List Value := [(Value.int .i64 (0 : Int)), (Value.int .i64 (0 : Int)), (Value.int .i64 (0 : Int)), (Value.int .i64 (0 : Int)), (Value.int .i64 (0 : Int)), (Value.string (⟨#[]⟩ : ByteArray))]
theorem bindAct {β : Type} (a b c d e : Int) (s : List UInt8) (f : FT [.int .i64, .int .i64, .int .i64, .int .i64, .int .i64, .str] → Option β) : (asSt [(.int .i64), (.int .i64), (.int .i64), (.int .i64), (.int .i64), .str] (some (Value.agg (actL a b c d e s).toArray))).bind f = f (show FT [.int .i64, .int .i64, .int .i64, .int .i64, .int .i64, .str] from (a, b, c, d, e, ba s)) := rfl
def ActsR (M : Nat) (h : H) (s : Sl) : Prop := ∀ h', Ch0 h h' → ∀ i, i < s.n → ∃ b o x1 x2 x3 x4 x5 z, z.length ≤ M ∧ ixs 6 s.a s.n (Int.ofNat i) = some (.pointer (some ⟨b, o, none⟩)) ∧ lda 6 h' (some ⟨b, o, none⟩) = some (.agg (actL x1 x2 x3 x4 x5 z).toArray)
theorem ActsR.stay {M : Nat} {h h' : H} {s : Sl} (r : ActsR M h s) (c : Ch0 h h') : ActsR M h' s := fun g cg => r g (c.then cg)
theorem acts_arg {M : Nat} {h : H} (w : WF h) {xs : List (Int × Int × Int × Int × Int × ByteArray)} {vs : List Value} (r : RSl 6 (RPair (RInt .i64) (RPair (RInt .i64) (RPair (RInt .i64) (RPair (RInt .i64) (RPair (RInt .i64) RStr))))) h xs vs) (hM : ∀ x ∈ xs, x.2.2.2.2.2.size ≤ M) : ∃ s : Sl, vs = [s.v] ∧ ActsR M h s := by
  obtain ⟨s, ls, rfl, s1, s2, s3, s4, s5, s6⟩ := RSl.many w (by decide) r
  refine ⟨s, rfl, fun h' c i hi => ?_⟩
  obtain ⟨n, g⟩ := SlR.grp (es := 6) (gs := ls) (s2.stay w c) (by decide) s4
  have hi' : i < ls.length := by omega
  obtain ⟨b, o, e1, e2⟩ := g i hi'
  have hx : i < xs.length := by omega
  obtain ⟨x1, y1, e4, z1, x2, y2, rfl, z2, x3, y3, rfl, z3, x4, y4, rfl, z4, x5, y5, rfl, z5, z6⟩ := s5 i _ _ (List.getElem?_eq_getElem hx) (List.getElem?_eq_getElem hi')
  obtain rfl := z1
  obtain rfl := z2
  obtain rfl := z3
  obtain rfl := z4
  obtain rfl := z5
  obtain rfl := z6
  rw [e4] at e2
  rw [n]
  have hm := hM _ (List.getElem_mem hx)
  refine ⟨b, o, _, _, _, _, _, xs[i].2.2.2.2.2.data.toList, ?_, e1, e2⟩
  rw [Array.length_toList]; exact hm
/-! ### TreeApart -/
theorem back_mp (what : Int) (nm : List UInt8) (u v : Vol) : (back what nm u v).mp = v.mp := by
  unfold back
  by_cases c : what = 7 ∧ u.pa = nm
  · rw [if_pos c]
  · rw [if_neg c]
theorem apart_l1 (k : Nat) (hk : 20000 < k) {h0 : H} (w0 : WF h0) {s t : Sl} {vs us : List Vs} (S : TreeR h0 s vs) (T : TreeR h0 t us) (Rv : RightP (vols vs)) (Ru : RightP (vols us)) {what : Int} {of nm : List UInt8} (K : Kept (vols vs) (vols us) what of nm) (x39 : Sl) (x40 : Int) (x43 : ByteArray) : ∀ n i h, vs.length - i < n → i ≤ vs.length → Ch0 h0 h →
    ∃ h', corbellaw18_TreeApart.l1 k n x39 x40 s (ba nm) x43 t what (Int.ofNat vs.length) (Int.ofNat i) h = some (.inr (), h') ∧ Ch0 h0 h'
  | 0, i, h, hf, _, _ => by omega
  | n + 1, i, h, hf, hi, C => by
    rw [corbellaw18_TreeApart.l1_succ]
    have hn := Rv.b.n
    have hm := Ru.b.n
    by_cases c : i < vs.length
    rotate_left
    · rw [decNlt c, cond_false]; exact ⟨h, rfl, C⟩
    rw [decLt c, cond_true]
    have lt1 : vs.length - (i + 1) < n := by omega
    have lt2 : i + 1 ≤ vs.length := c
    obtain ⟨b, o, e1, e2, e3⟩ := (S.stay w0 C).at c
    have hM := S.mp _ (List.getElem_mem c)
    have hV := mem_vols c
    have far : ∀ h', Ch0 h0 h' → ∀ j, j < 5 → ldc h' (some ⟨b, o + j, none⟩) = (voL vs[i])[j]? := fun h' C' j hj => by
      obtain ⟨b', o', f1, _, f3⟩ := (S.stay w0 C').at c
      rw [e1] at f1
      cases f1
      exact f3 j hj
    have farA : ∀ h', Ch0 h0 h' → lda 5 h' (some ⟨b, o, none⟩) = some (.agg (voL vs[i]).toArray) := fun h' C' => by
      obtain ⟨b', o', f1, f2, _⟩ := (S.stay w0 C').at c
      rw [e1] at f1
      cases f1
      exact f2
    generalize vs[i] = q at hM hV far farA
    rw [e1]
    simp only [asP_ptr, Option.bind_some, fadd]
    rw [far h C 0 (by decide), show asT ((voL q)[0]?) = some (ba q.1.nm) from asTs _]
    simp only [Option.bind_some]
    obtain ⟨r, a1, a2⟩ := rat_f k (by omega) (T.stay w0 C) hm q.1.nm
    rw [a1]
    simp only [Option.bind_some]
    rw [far h C 0 (by decide), show asT ((voL q)[0]?) = some (ba q.1.nm) from asTs _]
    simp only [Option.bind_some]
    rw [bat_eq]
    by_cases e : q.1.nm = nm
    · rw [decide_eq_true e, cond_true]
      obtain ⟨k1, k2⟩ := K.a q.1 hV e
      by_cases w7 : what = 7
      · have rr : r = -1 := by
          rcases a2 with ⟨j, _, hj, f, _⟩ | ⟨f, _⟩
          · exact absurd (f.trans e) (k2 w7 _ (mem_vols hj))
          · exact f
        subst w7; subst rr
        rw [wrap_succ (by omega)]
        exact apart_l1 k hk w0 S T Rv Ru K x39 x40 x43 n (i + 1) h lt1 lt2 C
      · rw [show (what == (7 : Int)) = false by rw [beq_eq_false_iff_ne]; exact w7, decide_eq_false (show ¬ what < 7 by omega)]
        simp only [cond_false, Option.bind_some]
        rw [wrap_succ (by omega)]
        exact apart_l1 k hk w0 S T Rv Ru K x39 x40 x43 n (i + 1) h lt1 lt2 C
    · rw [decide_eq_false e, cond_false]
      obtain ⟨v, v1, v2, v3⟩ := K.b q.1 hV e
      rcases a2 with ⟨j, rfl, hj, f1, f2⟩ | ⟨_, f⟩
      rotate_left
      · obtain ⟨u, hu, rfl⟩ := List.mem_map.1 v1
        exact absurd v2 (f u hu)
      clear a1
      have ev : us[j].1 = v := nm_inj Ru (mem_vols hj) v1 (by rw [f1, v2])
      rw [decide_eq_false (show ¬ Int.ofNat j < 0 by simp only [Int.ofNat_eq_natCast]; omega), cond_false]
      obtain ⟨b', o', g1, g2, g3⟩ := (T.stay w0 C).at hj
      have hU := T.mp _ (List.getElem_mem hj)
      have hB := Ru.b.nm _ (List.getElem_mem hj)
      rw [g1]
      simp only [asP_ptr, Option.bind_some]
      rw [g2, bindVo]
      generalize us[j] = u at ev hU hB
      subst ev
      dsimp only [voT]
      rw [show [Value.string (ba u.1.nm), Value.string (ba u.1.pa), Value.bool u.1.sn, Value.int .i64 u.1.sz, Value.slice u.2.a u.2.n u.2.c] = voL u from rfl, show [Value.string (⟨#[]⟩ : ByteArray), Value.string (⟨#[]⟩ : ByteArray), Value.bool false, Value.int .i64 (0 : Int), Value.slice none 0 0] = zVo from rfl]
      obtain ⟨h1, b1, b2, b3, b4⟩ := box_ok C.wf 58 5 zVo (voL u) rfl rfl rfl
      rw [b1]
      simp only [Option.bind_some]
      have C1 := C.then b2
      have JA : (cond (what == (7 : Int)) ((asT (ldc h1 (some ⟨b, o + 1, none⟩))).bind fun s305 => some (s305.toList == (ba nm).toList, h1)) (some (false, h1)) : Option (Bool × H)) = some (decide (what = 7 ∧ q.1.pa = nm), h1) := by
        by_cases w7 : what = 7
        · rw [show (what == (7 : Int)) = true by rw [w7]; rfl, cond_true, far h1 C1 1 (by decide), show asT ((voL q)[1]?) = some (ba q.1.pa) from asTs _]
          simp only [Option.bind_some]
          rw [bat_eq]
          by_cases d : q.1.pa = nm
          · rw [decide_eq_true d, decide_eq_true (And.intro w7 d)]
          · rw [decide_eq_false d, decide_eq_false (fun f => d f.2)]
        · rw [show (what == (7 : Int)) = false by rw [beq_eq_false_iff_ne]; exact w7, cond_false, decide_eq_false (fun f => w7 f.1)]
      rw [JA]
      simp only [Option.bind_some]
      have JJ : ∃ h2, (cond (decide (what = 7 ∧ q.1.pa = nm)) ((stv 1 h1 (some ⟨h.next, 1, none⟩) [(Value.string (ba nm))]).bind fun q307 => some ((), q307.2)) (some ((), h1)) : Option (Unit × H)) = some ((), h2) ∧ Ch (fun z => z = h.next) h1 h2 ∧ Is h2 h.next 58 5 (voL (back what nm q.1 u.1, u.2)) := by
        unfold back
        by_cases d : what = 7 ∧ q.1.pa = nm
        · rw [decide_eq_true d, cond_true, if_pos d]
          obtain ⟨h2, f1, f2, f3, f4⟩ := b4.set b2.wf 1 (.string (ba nm)) (by show 1 < 5; decide) rfl
          rw [f1]
          exact ⟨h2, rfl, f2, f4⟩
        · rw [decide_eq_false d, cond_false, if_neg d]
          exact ⟨h1, rfl, Ch.refl b2.wf, b4⟩
      obtain ⟨h2, j1, j2, j3⟩ := JJ
      rw [j1]
      simp only [Option.bind_some]
      have C2 := Ch0.at C1 j2 C.le
      rw [ldaIs (n := 5) j3 rfl, bindVo]
      rw [farA h2 C2, bindVo]
      obtain ⟨h3, l1, l2⟩ := sameVol_f k hk C2.wf (back what nm q.1 u.1, u.2) q (by
        show SlR 1 h2 u.2 (ivs (back what nm q.1 u.1).mp)
        rw [back_mp]; exact hU.stay w0 C2) (hM.stay w0 C2) (by show (back what nm q.1 u.1).mp.length ≤ _; rw [back_mp]; exact hB.2.2)
      have l1 : corbelref16_SameVolume.f k ((voT (back what nm q.1 u.1, u.2)).1, (voT (back what nm q.1 u.1, u.2)).2.1, (voT (back what nm q.1 u.1, u.2)).2.2.1, (voT (back what nm q.1 u.1, u.2)).2.2.2.1, (voT (back what nm q.1 u.1, u.2)).2.2.2.2) ((voT q).1, (voT q).2.1, (voT q).2.2.1, (voT q).2.2.2.1, (voT q).2.2.2.2) h2 = _ := l1
      rw [l1]
      simp only [Option.bind_some]
      rw [decide_eq_true v3]
      simp only [Bool.not_true, cond_false]
      rw [wrap_succ (by omega)]
      exact apart_l1 k hk w0 S T Rv Ru K x39 x40 x43 n (i + 1) h3 lt1 lt2 (C2.then l2)
end Go.Proofs.Ytfenkpghcbohdaa.Fw
