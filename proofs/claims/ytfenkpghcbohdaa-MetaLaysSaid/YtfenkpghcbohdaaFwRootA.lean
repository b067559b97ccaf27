/- FwRootA: declarations of other seats' texts, for this one. No condition. -/
import Derived.Test.YtfenkpghcbohdaaDenHq
import Derived.Test.YtfenkpghcbohdaaFRoot
import Derived.Lib.Strings
namespace Go.Proofs.Ytfenkpghcbohdaa.Fw
open Go Den Fwd
set_option linter.unusedVariables false
set_option linter.unusedSimpArgs false
theorem pick_f (k : Nat) (n m : Int) (h : H) (h0 : 0 < m) (h1 : m ≤ 4611686018427387904) : corbelhand_Pick.f k n m h = some (n % m, h) := by
  unfold corbelhand_Pick.f
  have e0 : (m == 0) = false := by simp; omega
  have e := Int.tmod_eq_emod (a := n) (b := m)
  have b1 := Int.emod_nonneg n (show m ≠ 0 by omega)
  have b2 := Int.emod_lt_of_pos n h0
  have hm : (m.natAbs : Int) = m := by omega
  have r0 : intA .rem .i64 n m = some (.int .i64 (n.tmod m)) := by
    show cond (m == 0) none (some (Value.int .i64 (n.tmod m))) = _
    rw [e0]; rfl
  rw [r0]
  simp only [asI, if_true, Option.bind_some]
  by_cases hc : 0 ≤ n ∨ m ∣ n
  · rw [if_pos hc] at e
    have hd : decide (n.tmod m < 0) = false := decide_eq_false (by omega)
    rw [hd, cond_false, Option.bind_some, e]; simp
  · rw [if_neg hc, hm] at e
    have hne : n % m ≠ 0 := fun q => hc (.inr (Int.dvd_of_emod_eq_zero q))
    have hd : decide (n.tmod m < 0) = true := decide_eq_true (by omega)
    rw [hd, cond_true, Option.bind_some, wrap_in (by omega) (by omega), e]
    simp
abbrev Parts := List (Sl × List UInt8)
def total : Parts → Nat
  | [] => 0
  | p :: ps => p.2.length + total ps
def joined (ps : Parts) : List UInt8 := (ps.map (·.2)).flatten
theorem joined_len : ∀ ps : Parts, (joined ps).length = total ps
  | [] => rfl
  | p :: ps => by
    have := joined_len ps
    unfold joined at this ⊢
    rw [List.map_cons, List.flatten_cons, List.length_append, this, total]
def PartsR (h : H) (ps : Parts) : Prop := ∀ p ∈ ps, SlR 1 h p.1 (byt p.2)
theorem PartsR.stay {h h' : H} {ps : Parts} (w : WF h) (c : Ch0 h h') (r : PartsR h ps) : PartsR h' ps := fun p hp => (r p hp).stay w c
theorem concat_l0 (k : Nat) {h : H} {s : Sl} {ps : Parts} (r : SlR 1 h s (ps.map fun p => slv p.1)) (hp : PartsR h ps) (hl : ps.length < 1000000) (a0 : Sl) : ∀ n j acc, ps.length - j < n → j ≤ ps.length → acc + total (ps.drop j) ≤ 140737488355328 →
    slices_Concat_byte_byte.l0 k n a0 s (Int.ofNat ps.length) (Int.ofNat acc) (Int.ofNat j) h = some (Int.ofNat (acc + total (ps.drop j)), h)
  | 0, j, acc, hn, _, _ => by omega
  | n + 1, j, acc, hn, hj, ht => by
    rw [slices_Concat_byte_byte.l0_succ]
    have hsn : s.n = ps.length := by have := r.len; simpa using this.symm
    by_cases c : j < ps.length
    · rw [decide_eq_true (show Int.ofNat j < Int.ofNat ps.length by simp; omega), cond_true]
      obtain ⟨p, e1, e2⟩ := r.elem1 (j := j) (by omega)
      rw [List.getElem?_map, List.getElem?_eq_getElem c] at e2
      have hd : ps.drop j = ps[j] :: ps.drop (j + 1) := List.drop_eq_getElem_cons c
      rw [hd, total] at ht ⊢
      have hpn := (hp _ (List.getElem_mem c)).n_byt
      rw [e1]
      simp only [asP_ptr, Option.bind_some, e2, Option.map_some, asS_slv]
      rw [hpn]
      rw [wrap_in (n := Int.ofNat acc + Int.ofNat ps[j].2.length) (by simp; omega) (by simp; omega), show Int.ofNat acc + Int.ofNat ps[j].2.length = Int.ofNat (acc + ps[j].2.length) from rfl, decide_eq_false (show ¬ Int.ofNat (acc + ps[j].2.length) < (0 : Int) by simp; omega)]
      simp only [cond_false, Option.bind_some]
      rw [wrap_succ (by omega), concat_l0 k r hp hl a0 n (j + 1) _ (by omega) (by omega) (by omega), Nat.add_assoc]
    · rw [decide_eq_false (show ¬ Int.ofNat j < Int.ofNat ps.length by simp; omega), cond_false, List.drop_eq_nil_of_le (by omega)]; rfl
theorem concat_l1 (k : Nat) {h0 : H} {s : Sl} {ps : Parts} (w0 : WF h0) (r : SlR 1 h0 s (ps.map fun p => slv p.1)) (hp : PartsR h0 ps) (hl : ps.length < 1000000) (b : Nat) (hb : h0.next ≤ b) : ∀ n j h (pre : List UInt8), ps.length - j < n → j ≤ ps.length → Ch0 h0 h → pre.length + total (ps.drop j) ≤ 140737488355328 → Is h b 5 1 (byt (pre ++ List.replicate (total (ps.drop j)) 0)) →
    ∃ h', slices_Concat_byte_byte.l1 k n s (Int.ofNat ps.length) ⟨some ⟨b, 0, none⟩, pre.length, unkOf 1⟩ (Int.ofNat j) h = some (⟨some ⟨b, 0, none⟩, pre.length + total (ps.drop j), unkOf 1⟩, h') ∧ Ch0 h0 h' ∧ Is h' b 5 1 (byt (pre ++ joined (ps.drop j)))
  | 0, j, h, pre, hn, _, _, _, _ => by omega
  | n + 1, j, h, pre, hn, hj, hc, ht, I => by
    rw [slices_Concat_byte_byte.l1_succ]
    have hsn : s.n = ps.length := by have := r.len; simpa using this.symm
    by_cases c : j < ps.length
    · rw [decide_eq_true (show Int.ofNat j < Int.ofNat ps.length by simp; omega), cond_true]
      obtain ⟨p, e1, e2⟩ := (r.stay w0 hc).elem1 (j := j) (by omega)
      rw [List.getElem?_map, List.getElem?_eq_getElem c] at e2
      have hd : ps.drop j = ps[j] :: ps.drop (j + 1) := List.drop_eq_getElem_cons c
      rw [hd, total] at ht I ⊢
      have hpj := hp _ (List.getElem_mem c)
      have hpn := hpj.n_byt
      rw [e1]
      simp only [asP_ptr, Option.bind_some, e2, Option.map_some, asS_slv]
      rw [apv_eq _ _ _ _ (hpj.stay w0 hc)]
      have I' : Is h b 5 1 (byt pre ++ byt (List.replicate (ps[j].2.length + total (ps.drop (j + 1))) 0)) := by rw [byt_app]; exact I
      obtain ⟨h', u1, u2, u3, u4⟩ := apR_ok (by_ := 1) hc.wf I' (n := pre.length) (m := ps[j].1.n) (new := byt ps[j].2) (by rw [byt_len, Nat.mul_one]) (by rw [byt_len, List.length_replicate]; omega) (by omega) (byt_one _) (by rw [byt_len]; omega)
      rw [u1]
      rw [byt_app, byt_drop, List.drop_replicate, byt_app, show ps[j].2.length + total (ps.drop (j + 1)) - ps[j].1.n * 1 = total (ps.drop (j + 1)) by omega] at u4
      have hlen : pre.length + ps[j].1.n = (pre ++ ps[j].2).length := by rw [List.length_append, hpn]
      have c' : Ch0 h0 h' := ⟨u2.wf, by have := hc.le; omega, fun x hx f => (u2.keep x (by have := hc.le; omega) (by omega)).trans (hc.keep x hx f)⟩
      obtain ⟨h2, v1, v2, v3⟩ := concat_l1 k w0 r hp hl b hb n (j + 1) h' (pre ++ ps[j].2) (by omega) (by omega) c' (by rw [List.length_append]; omega) u4
      rw [show asS2 (some (Value.slice (some ⟨b, 0, none⟩) (pre.length + ps[j].1.n) (unkOf 1), h')) = some ((⟨some ⟨b, 0, none⟩, pre.length + ps[j].1.n, unkOf 1⟩ : Sl), h') from rfl]
      simp only [Option.bind_some]
      rw [wrap_succ (by omega), hlen, v1]
      refine ⟨h2, by rw [List.length_append, Nat.add_assoc], v2, ?_⟩
      rw [List.append_assoc] at v3
      exact v3
    · rw [decide_eq_false (show ¬ Int.ofNat j < Int.ofNat ps.length by simp; omega), cond_false]
      have hd : ps.drop j = [] := List.drop_eq_nil_of_le (by omega)
      rw [hd] at I ⊢
      exact ⟨h, rfl, hc, I⟩
theorem total_zero : ∀ (ps : Parts), total ps = 0 → ∀ p ∈ ps, p.2 = []
  | [], _, p, hp => by cases hp
  | q :: ps, h, p, hp => by
    rw [total] at h
    rcases List.mem_cons.1 hp with rfl | hp
    · exact List.eq_nil_of_length_eq_zero (by omega)
    · exact total_zero ps (by omega) p hp
theorem concat_l1z (k : Nat) {h : H} {s : Sl} {ps : Parts} (r : SlR 1 h s (ps.map fun p => slv p.1)) (hp : PartsR h ps) (hl : ps.length < 1000000) (ht : total ps = 0) : ∀ n j, ps.length - j < n → j ≤ ps.length →
    slices_Concat_byte_byte.l1 k n s (Int.ofNat ps.length) ⟨none, 0, 0⟩ (Int.ofNat j) h = some (⟨none, 0, 0⟩, h)
  | 0, j, hn, _ => by omega
  | n + 1, j, hn, hj => by
    rw [slices_Concat_byte_byte.l1_succ]
    have hsn : s.n = ps.length := by have := r.len; simpa using this.symm
    by_cases c : j < ps.length
    · rw [decide_eq_true (show Int.ofNat j < Int.ofNat ps.length by simp; omega), cond_true]
      obtain ⟨p, e1, e2⟩ := r.elem1 (j := j) (by omega)
      rw [List.getElem?_map, List.getElem?_eq_getElem c] at e2
      have hpj := hp _ (List.getElem_mem c)
      have hpn := hpj.n_byt
      have hz := total_zero ps ht _ (List.getElem_mem c)
      rw [e1]
      simp only [asP_ptr, Option.bind_some, e2, Option.map_some, asS_slv]
      rw [apv_eq _ _ _ _ hpj, hpn, hz]
      rw [show asS2 (apN 5 1 1 (Value.slice none 0 0) ([] : List UInt8).length (byt []) h) = some ((⟨none, 0, 0⟩ : Sl), h) from rfl]
      simp only [Option.bind_some]
      rw [wrap_succ (by omega)]
      exact concat_l1z k r hp hl ht n (j + 1) (by omega) (by omega)
    · rw [decide_eq_false (show ¬ Int.ofNat j < Int.ofNat ps.length by simp; omega), cond_false]
theorem grow_f (k : Nat) {h : H} (w : WF h) {t : Nat} (ht : 0 < t) (ht2 : t ≤ 140737488355328) :
    ∃ h', slices_Grow_byte_byte.f k ⟨none, 0, 0⟩ (Int.ofNat t) h = some (⟨some ⟨h.next, 0, none⟩, 0, unkOf 1⟩, h') ∧ Ch0 h h' ∧ Is h' h.next 5 1 (byt (List.replicate t 0)) := by
  unfold slices_Grow_byte_byte.f
  rw [decide_eq_false (show ¬ Int.ofNat t < (0 : Int) by simp)]
  simp only [cond_false, Option.bind_some]
  have hpv : asI2 .i64 (pv h (capV (none : Option Addr) 0)) = some ((0 : Int), h) := rfl
  simp only [hpv, Option.bind_some]
  rw [show wrapA .i64 ((0 : Int) - Int.ofNat 0) = 0 from rfl, wrap_in (n := Int.ofNat t - 0) (by simp only [Int.ofNat_eq_natCast]; omega) (by simp only [Int.ofNat_eq_natCast]; omega), show Int.ofNat t - 0 = Int.ofNat t from Int.sub_zero _]
  rw [decide_eq_true (show Int.ofNat t > (0 : Int) by simp; omega)]
  simp only [cond_true, hpv, Option.bind_some]
  rw [show asS (subs 1 (Value.slice none 0 0) none (some (0 : Int))) = some (⟨none, 0, 0⟩ : Sl) from rfl]
  simp only [Option.bind_some]
  obtain ⟨c1, c2, c3⟩ := newR_ok w 5 1 ((List.range (t * 1)).map (zAt [Value.int .u8 (0 : Int)]))
  have hz : (List.range (t * 1)).map (zAt [Value.int .u8 (0 : Int)]) = byt (List.replicate t 0) := by
    rw [← byt_rep]
    apply List.ext_getElem?
    intro i
    rw [List.getElem?_map, List.getElem?_replicate, Nat.mul_one]
    by_cases c : i < t
    · rw [List.getElem?_range c, if_pos c]
      simp [zAt, Nat.mod_one]
    · rw [List.getElem?_eq_none (by simpa using c), if_neg c]; rfl
  have e1 : apz 5 1 1 [Value.int .u8 (0 : Int)] (Value.slice none 0 0) (Int.ofNat t) h = some (.slice (some ⟨h.next, 0, none⟩) t (unkOf 1), newR h 5 1 ((List.range (t * 1)).map (zAt [Value.int .u8 (0 : Int)]))) := by
    show cond (Nat.ble (t * 1) 140737488355328 && Nat.ble t 140737488355328 && Nat.beq 1 1) (apN 5 1 1 (.slice none 0 0) t ((List.range (t * 1)).map (zAt [Value.int .u8 (0 : Int)])) h) none = _
    rw [cond_eta _ _ _ (by simp only [Bool.and_eq_true, Nat.ble_eq]; exact ⟨⟨by omega, ht2⟩, rfl⟩)]
    have hg := apN_guard (l := 0) (n := t) (by_ := 1) (sz := 1) (new := (List.range (t * 1)).map (zAt [Value.int .u8 (0 : Int)])) (by omega) (by rw [hz]; exact byt_one _) (by simp)
    simp only [apN, hg, cond_false, beq_false (show t ≠ 0 by omega)]; rfl
  rw [e1]
  rw [show asS2 (some (Value.slice (some ⟨h.next, 0, none⟩) t (unkOf 1), newR h 5 1 ((List.range (t * 1)).map (zAt [Value.int .u8 (0 : Int)])))) = some ((⟨some ⟨h.next, 0, none⟩, t, unkOf 1⟩ : Sl), newR h 5 1 ((List.range (t * 1)).map (zAt [Value.int .u8 (0 : Int)]))) from rfl]
  simp only [Option.bind_some]
  have e2 : subs 1 (Value.slice (some ⟨h.next, 0, none⟩) t (unkOf 1)) none (some (Int.ofNat 0)) = some (.slice (some ⟨h.next, 0, none⟩) 0 (unkOf 1)) := by
    have : ∀ b : Nat, subs 1 (Value.slice (some ⟨b, 0, none⟩) t (unkOf 1)) none (some (Int.ofNat 0)) = slice2 b 0 1 t (unkOf 1) 0 0 := by
      intro b
      unfold subs
      split
      · rename_i e; cases e
      · rename_i e; cases e; rfl
      · rename_i e; cases e
      · rename_i a1 a2 a3; exact (a2 _ _ _ _ rfl).elim
    rw [this]
    unfold slice2
    rw [isUnk_unkOf, cond_true, cond_eta _ _ _ (by simp), beq_false (show (0 : Nat) ≠ t by omega)]; rfl
  rw [e2]
  rw [hz] at c1 c3 ⊢
  exact ⟨_, rfl, c1, c3⟩
theorem concat_f (k : Nat) (hk : 1000 < k) {h : H} (w : WF h) {s : Sl} {ps : Parts} (r : SlR 1 h s (ps.map fun p => slv p.1)) (hp : PartsR h ps) (hl : ps.length < 1000) (ht : total ps ≤ 140737488355328) :
    ∃ s' h', slices_Concat_byte_byte.f k s h = some (s', h') ∧ Ch0 h h' ∧ Ow 5 1 h' s' (byt (joined ps)) ∧ ∀ b, SlB s' b → h.next ≤ b := by
  have hsn : s.n = ps.length := by have := r.len; simpa using this.symm
  unfold slices_Concat_byte_byte.f
  have e0 := concat_l0 k r hp (by omega) s k 0 0 (by omega) (Nat.zero_le _) (by simpa using ht)
  rw [List.drop_zero, Nat.zero_add] at e0
  rw [hsn, show (0 : Int) = Int.ofNat 0 from rfl, e0]
  simp only [Option.bind_some]
  rcases Nat.eq_zero_or_pos (total ps) with z | z
  · rw [z]
    rw [show slices_Grow_byte_byte.f k ⟨none, 0, 0⟩ (Int.ofNat 0) h = some (⟨none, 0, 0⟩, h) from rfl]
    simp only [Option.bind_some]
    rw [concat_l1z k r hp (by omega) z k 0 (by omega) (Nat.zero_le _)]
    have : joined ps = [] := List.eq_nil_of_length_eq_zero (by rw [joined_len, z])
    rw [this]
    exact ⟨⟨none, 0, 0⟩, h, rfl, Ch.refl w, Ow.nil, fun b hb => by obtain ⟨o, q⟩ := hb; cases q⟩
  · obtain ⟨h1, g1, g2, g3⟩ := grow_f k w z ht
    rw [g1]
    simp only [Option.bind_some]
    obtain ⟨h2, v1, v2, v3⟩ := concat_l1 k w r hp (by omega) h.next (Nat.le_refl _) k 0 h1 [] (by omega) (Nat.zero_le _) g2 (by simpa using ht) (by simpa using g3)
    rw [List.drop_zero] at v1 v3
    rw [show ([] : List UInt8).length = 0 from rfl] at v1
    rw [v1]
    refine ⟨⟨some ⟨h.next, 0, none⟩, 0 + total ps, unkOf 1⟩, h2, rfl, v2, .inr ⟨h.next, 0 + total ps, unkOf 1, rfl, by rw [byt_len, joined_len]; omega, by simpa using v3, .inr rfl⟩, fun b hb => ?_⟩
    obtain ⟨o, q⟩ := hb
    have : h.next = b := congrArg Addr.block (Option.some.inj q)
    omega
theorem wrap_u64 {n : Int} (h0 : 0 ≤ n) (h1 : n < 18446744073709551616) : wrapA .u64 n = n := by
  rw [wrapA_eq]
  show n % 18446744073709551616 = n
  exact Int.emod_eq_of_lt h0 h1
theorem wrap_u8n (n : Nat) : wrapA .u8 (Int.ofNat n) = Int.ofNat (UInt8.ofNat n).toNat := by rw [wrap_u8, u8_nat]
theorem Ch0.own {h0 h h' : H} {s : Sl} (c : Ch0 h0 h) (d : Ch (SlB s) h h') (hs : ∀ b, SlB s b → h0.next ≤ b) : Ch0 h0 h' :=
  c.trans d fun x hx f => by have := hs x f; omega
/-- one byte more -/
theorem push_b {h : H} (w : WF h) {s : Sl} {x : List UInt8} (r : Ow 5 1 h s (byt x)) (c : UInt8) (v : Int) (hv : v = Int.ofNat c.toNat) (hb : x.length ≤ 1000000) :
    ∃ s' h', asS2 (apv 5 1 1 (.slice s.a s.n s.c) (.slice (some ⟨h.next, 0, none⟩) 1 1) (newR h 5 1 [.int .u8 v])) = some (s', h') ∧ Ch (SlB s) h h' ∧ Ow 5 1 h' s' (byt (x ++ [c])) ∧ ∀ b, SlB s' b → SlB s b ∨ h.next ≤ b := by
  subst hv
  obtain ⟨n1, n2, n3⟩ := newR_ok w 5 1 [.int .u8 (Int.ofNat c.toNat)]
  have hs := r.slr.n_byt
  obtain ⟨s', h', e1, e2, e3, e4, e5⟩ := apv_ok (by_ := 1) n1.wf (r.stay w n1) (by decide) (SlR.of_is n3 (n := 1) rfl (by unfold unk; omega)) (by rw [hs]; show (x.length + 1) * 1 ≤ _; omega) rfl
  refine ⟨s', h', e1, (n1.mono fun _ _ f => f.elim).trans e2 fun _ _ f => f, by rw [← byt_app]; exact e3, fun b hb => (e5 b hb).imp id fun f => ?_⟩
  omega
/-- bytes behind bytes -/
theorem app_b {h : H} (w : WF h) {s t : Sl} {x y : List UInt8} (r : Ow 5 1 h s (byt x)) (q : SlR 1 h t (byt y)) (hb : x.length + y.length ≤ 140737488355328) :
    ∃ s' h', asS2 (apv 5 1 1 (.slice s.a s.n s.c) (.slice t.a t.n t.c) h) = some (s', h') ∧ Ch (SlB s) h h' ∧ Ow 5 1 h' s' (byt (x ++ y)) ∧ ∀ b, SlB s' b → SlB s b ∨ h.next ≤ b := by
  have hs := r.slr.n_byt
  have ht := q.n_byt
  obtain ⟨s', h', e1, e2, e3, e4, e5⟩ := apv_ok (by_ := 1) w r (by decide) q (by rw [hs, ht]; omega) (byt_one y)
  exact ⟨s', h', e1, e2, by rw [← byt_app]; exact e3, fun b hb => (e5 b hb).imp id fun f => f.1⟩
theorem ba_eq (a b : List UInt8) : ((ByteArray.mk a.toArray).toList == (ByteArray.mk b.toArray).toList) = decide (a = b) := by
  have e : ∀ l : List UInt8, (ByteArray.mk l.toArray).toList = l := fun l => by
    rw [Lib.toList_data]
  rw [e, e]
  by_cases c : a = b
  · subst c; simp
  · rw [decide_eq_false c]; exact beq_eq_false_iff_ne.2 c
theorem txt_sl {h : H} {s : Sl} {bs : List UInt8} (r : SlR 1 h s (byt bs)) : asT (txt h (.slice s.a s.n s.c)) = some ⟨bs.toArray⟩ := by rw [txt_ok r]; rfl
theorem same1_sl {h h' : H} {s : Sl} (e : ∀ b, SlB s b → h'.get b = h.get b) : same1 h h' (some (.slice s.a s.n s.c)) = true := by
  obtain ⟨a, n, c⟩ := s
  unfold same1
  rcases a with _ | ⟨b, o, _ | s⟩
  · rfl
  · exact sameVer_of (e b ⟨o, rfl⟩)
  · rfl
/-- a box, all of it stored -/
theorem Is.whole {h : H} (w : WF h) {b e n : Nat} {l : List Value} (I : Is h b e n l) (hl : l.length = n) (vs : List Value) (hv : vs.length = n) (h1 : vs.all Den.one = true) :
    ∃ h', stv n h (some ⟨b, 0, none⟩) vs = some (undef, h') ∧ Ch (fun c => c = b) h h' ∧ h'.next = h.next ∧ Is h' b e n vs := by
  obtain ⟨h', e1, e2, e3, e4⟩ := stv_ok w I (o := 0) vs (by omega) h1
  rw [hv] at e1
  refine ⟨h', e1, e2, e3, ?_⟩
  have : over l 0 vs = vs := by
    unfold over
    rw [List.take_zero, List.nil_append, List.drop_eq_nil_of_le (by omega), List.append_nil]
  rw [← this]; exact e4
theorem cbytes_l0 (k : Nat) (n : Nat) {h0 : H} : ∀ f s h acc (pre : List UInt8), s < f → s ≤ 8 → pre.length + s ≤ 1000 → Ch0 h0 h → Ow 5 1 h acc (byt pre) → (∀ b, SlB acc b → h0.next ≤ b) →
    ∃ acc' h', meta_bytes.l0 k f (Int.ofNat n) acc (Int.ofNat s - 1) h = some (acc', h') ∧ Ch0 h0 h' ∧ Ow 5 1 h' acc' (byt (pre ++ beN n s)) ∧ ∀ b, SlB acc' b → h0.next ≤ b
  | 0, s, h, acc, pre, hf, _, _, _, _, _ => by omega
  | f + 1, 0, h, acc, pre, hf, _, _, hc, ho, hb => by
    rw [meta_bytes.l0_succ, decide_eq_false (show ¬ Int.ofNat 0 - 1 ≥ (0 : Int) by decide), cond_false]
    exact ⟨acc, h, rfl, hc, by rw [beN, List.append_nil]; exact ho, hb⟩
  | f + 1, s + 1, h, acc, pre, hf, hs, hp, hc, ho, hb => by
    rw [meta_bytes.l0_succ, show Int.ofNat (s + 1) - 1 = Int.ofNat s by simp only [Int.ofNat_eq_natCast]; omega, decide_eq_true (show Int.ofNat s ≥ (0 : Int) from Int.natCast_nonneg s), cond_true]
    rw [wrap_in (n := (8 : Int) * Int.ofNat s) (by simp only [Int.ofNat_eq_natCast]; omega) (by simp only [Int.ofNat_eq_natCast]; omega), show (8 : Int) * Int.ofNat s = Int.ofNat (8 * s) from rfl]
    rw [show binA Try.prog .shr 3 (Value.int .i64 (Int.ofNat n)) (Value.int .i64 (Int.ofNat (8 * s))) = some (.int .i64 ((Int.ofNat n).fdiv (2 ^ min (8 * s) 64))) from rfl, Nat.min_eq_left (by omega), fdiv_pow]
    simp only [asI_int, Option.bind_some]
    obtain ⟨s', h', e1, e2, e3, e4⟩ := push_b hc.wf ho (UInt8.ofNat (n / 256 ^ s)) _ (wrap_u8n _) (by omega)
    rw [e1]
    simp only [Option.bind_some]
    rw [wrap_in (n := Int.ofNat s - 1) (by simp only [Int.ofNat_eq_natCast]; omega) (by simp only [Int.ofNat_eq_natCast]; omega)]
    obtain ⟨acc', h2, f1, f2, f3, f4⟩ := cbytes_l0 k n f s h' s' (pre ++ [UInt8.ofNat (n / 256 ^ s)]) (by omega) (by omega) (by rw [List.length_append, List.length_singleton]; omega) (Ch0.own hc e2 hb) e3 fun b hb' => (e4 b hb').elim (hb b) fun q => Nat.le_trans hc.le q
    exact ⟨acc', h2, f1, f2, by rw [List.append_assoc] at f3; exact f3, f4⟩
theorem cbytes_f (k : Nat) (hk : 1000 < k) (n s : Nat) (hs : s ≤ 8) {h : H} (w : WF h) (m : Int) (hm : m = Int.ofNat n) (t : Int) (ht : t = Int.ofNat s) :
    ∃ s' h', meta_bytes.f k m t h = some (s', h') ∧ Ch0 h h' ∧ Ow 5 1 h' s' (byt (beN n s)) ∧ ∀ b, SlB s' b → h.next ≤ b := by
  subst hm; subst ht
  unfold meta_bytes.f
  rw [wrap_in (n := Int.ofNat s - 1) (by simp only [Int.ofNat_eq_natCast]; omega) (by simp only [Int.ofNat_eq_natCast]; omega)]
  obtain ⟨a, h', e1, e2, e3, e4⟩ := cbytes_l0 k n (h0 := h) k s h ⟨none, 0, 0⟩ [] (by omega) hs (by show 0 + s ≤ 1000; omega) (Ch.refl w) Ow.nil fun b hb => by obtain ⟨o, q⟩ := hb; cases q
  rw [e1]
  exact ⟨a, h', rfl, e2, e3, e4⟩
theorem big_l0 (k : Nat) (n : Nat) {h0 : H} : ∀ f s h acc (pre : List UInt8), s < f → s ≤ 8 → pre.length + s ≤ 1000 → Ch0 h0 h → Ow 5 1 h acc (byt pre) → (∀ b, SlB acc b → h0.next ≤ b) →
    ∃ acc' h', corbelref7_Big.l0 k f (Int.ofNat n) acc (Int.ofNat s - 1) h = some (acc', h') ∧ Ch0 h0 h' ∧ Ow 5 1 h' acc' (byt (pre ++ beN n s)) ∧ ∀ b, SlB acc' b → h0.next ≤ b
  | 0, s, h, acc, pre, hf, _, _, _, _, _ => by omega
  | f + 1, 0, h, acc, pre, hf, _, _, hc, ho, hb => by
    rw [corbelref7_Big.l0_succ, decide_eq_false (show ¬ Int.ofNat 0 - 1 ≥ (0 : Int) by decide), cond_false]
    exact ⟨acc, h, rfl, hc, by rw [beN, List.append_nil]; exact ho, hb⟩
  | f + 1, s + 1, h, acc, pre, hf, hs, hp, hc, ho, hb => by
    rw [corbelref7_Big.l0_succ, show Int.ofNat (s + 1) - 1 = Int.ofNat s by simp only [Int.ofNat_eq_natCast]; omega, decide_eq_true (show Int.ofNat s ≥ (0 : Int) from Int.natCast_nonneg s), cond_true]
    rw [wrap_in (n := (8 : Int) * Int.ofNat s) (by simp only [Int.ofNat_eq_natCast]; omega) (by simp only [Int.ofNat_eq_natCast]; omega), show (8 : Int) * Int.ofNat s = Int.ofNat (8 * s) from rfl, wrap_u64 (n := Int.ofNat (8 * s)) (by simp only [Int.ofNat_eq_natCast]; omega) (by simp only [Int.ofNat_eq_natCast]; omega)]
    rw [show binA Try.prog .shr 3 (Value.int .i64 (Int.ofNat n)) (Value.int .u64 (Int.ofNat (8 * s))) = some (.int .i64 ((Int.ofNat n).fdiv (2 ^ min (8 * s) 64))) from rfl, Nat.min_eq_left (by omega), fdiv_pow]
    simp only [asI_int, Option.bind_some]
    obtain ⟨s', h', e1, e2, e3, e4⟩ := push_b hc.wf ho (UInt8.ofNat (n / 256 ^ s)) _ (wrap_u8n _) (by omega)
    rw [e1]
    simp only [Option.bind_some]
    rw [wrap_in (n := Int.ofNat s - 1) (by simp only [Int.ofNat_eq_natCast]; omega) (by simp only [Int.ofNat_eq_natCast]; omega)]
    obtain ⟨acc', h2, f1, f2, f3, f4⟩ := big_l0 k n f s h' s' (pre ++ [UInt8.ofNat (n / 256 ^ s)]) (by omega) (by omega) (by rw [List.length_append, List.length_singleton]; omega) (Ch0.own hc e2 hb) e3 fun b hb' => (e4 b hb').elim (hb b) fun q => Nat.le_trans hc.le q
    exact ⟨acc', h2, f1, f2, by rw [List.append_assoc] at f3; exact f3, f4⟩
theorem big_f (k : Nat) (hk : 1000 < k) (n s : Nat) (hs : s ≤ 8) {h : H} (w : WF h) (m : Int) (hm : m = Int.ofNat n) (t : Int) (ht : t = Int.ofNat s) :
    ∃ s' h', corbelref7_Big.f k m t h = some (s', h') ∧ Ch0 h h' ∧ Ow 5 1 h' s' (byt (beN n s)) ∧ ∀ b, SlB s' b → h.next ≤ b := by
  subst hm; subst ht
  unfold corbelref7_Big.f
  rw [wrap_in (n := Int.ofNat s - 1) (by simp only [Int.ofNat_eq_natCast]; omega) (by simp only [Int.ofNat_eq_natCast]; omega)]
  obtain ⟨a, h', e1, e2, e3, e4⟩ := big_l0 k n (h0 := h) k s h ⟨none, 0, 0⟩ [] (by omega) hs (by show 0 + s ≤ 1000; omega) (Ch.refl w) Ow.nil fun b hb => by obtain ⟨o, q⟩ := hb; cases q
  rw [e1]
  exact ⟨a, h', rfl, e2, e3, e4⟩
/-- one step of reading -/
theorem or_step {acc : Nat} {c : UInt8} (hb : acc < 281474976710656) : asI .i64 (intA .or .i64 (wrapA .i64 (Int.ofNat acc * 2 ^ 8)) (wrapA .i64 (Int.ofNat c.toNat))) = some (Int.ofNat (acc * 256 + c.toNat)) := by
  have hc := c.toNat_lt
  rw [wrap_in (n := Int.ofNat acc * 2 ^ 8) (by simp only [Int.ofNat_eq_natCast]; omega) (by simp only [Int.ofNat_eq_natCast]; omega), wrap_in (n := Int.ofNat c.toNat) (by simp only [Int.ofNat_eq_natCast]; omega) (by simp only [Int.ofNat_eq_natCast]; omega)]
  rw [show Int.ofNat acc * 2 ^ 8 = Int.ofNat (acc * 2 ^ 8) from rfl]
  rw [show intA .or .i64 (Int.ofNat (acc * 2 ^ 8)) (Int.ofNat c.toNat) = cond (Nat.blt (acc * 2 ^ 8) (2 ^ 64) && Nat.blt c.toNat (2 ^ 64)) (some (.int .i64 (wrapA .i64 (Int.ofNat (Nat.lor (acc * 2 ^ 8) c.toNat))))) none from rfl]
  rw [cond_eta _ _ _ (by rw [Bool.and_eq_true]; exact ⟨Nat.ble_eq_true_of_le (by omega), Nat.ble_eq_true_of_le (by omega)⟩), or_byte _ _ hc]
  rw [wrap_in (n := Int.ofNat (acc * 256 + c.toNat)) (by simp only [Int.ofNat_eq_natCast]; omega) (by simp only [Int.ofNat_eq_natCast]; omega), asI_int]
theorem unbe_take_lt {x : List UInt8} {j : Nat} (hj : j ≤ 6) : unbe (x.take j) < 281474976710656 := by
  have h1 := unbe_bound (x.take j)
  have h2 : (x.take j).length ≤ 6 := by rw [List.length_take]; omega
  have h3 : (256 : Nat) ^ (x.take j).length ≤ 256 ^ 6 := Nat.pow_le_pow_right (by decide) h2
  omega
theorem cnumber_l0 (k : Nat) {h : H} {s : Sl} {x : List UInt8} (r : SlR 1 h s (byt x)) (hx : x.length ≤ 7) : ∀ f j acc, x.length - j < f → j ≤ x.length → acc = unbe (x.take j) →
    meta_reader_number.l0 k f s (Int.ofNat x.length) (Int.ofNat acc) (Int.ofNat j) h = some (Int.ofNat (unbe x), h)
  | 0, j, acc, hf, _, _ => by omega
  | f + 1, j, acc, hf, hj, ha => by
    rw [meta_reader_number.l0_succ]
    by_cases c : j < x.length
    · rw [decide_eq_true (show Int.ofNat j < Int.ofNat x.length by simp; omega), cond_true]
      obtain ⟨p, e1, e2⟩ := r.byte (List.getElem?_eq_getElem c)
      rw [e1]
      simp only [asP_ptr, Option.bind_some, e2, asI_int]
      rw [or_step (by rw [ha]; exact unbe_take_lt (by omega))]
      simp only [Option.bind_some]
      rw [wrap_succ (by omega)]
      have ht : x.take (j + 1) = x.take j ++ [x[j]] := by simp
      exact cnumber_l0 k r hx f (j + 1) _ (by omega) (by omega) (by rw [ht, unbe_snoc, ha])
    · rw [decide_eq_false (show ¬ Int.ofNat j < Int.ofNat x.length by simp; omega), cond_false]
      rw [List.take_of_length_le (by omega)] at ha
      rw [ha]
theorem from_l0 (k : Nat) {h : H} {s : Sl} {x : List UInt8} (r : SlR 1 h s (byt x)) (hx : x.length ≤ 7) : ∀ f j acc, x.length - j < f → j ≤ x.length → acc = unbe (x.take j) →
    corbelref7_From.l0 k f s (Int.ofNat acc) (Int.ofNat j) h = some (Int.ofNat (unbe x), h)
  | 0, j, acc, hf, _, _ => by omega
  | f + 1, j, acc, hf, hj, ha => by
    rw [corbelref7_From.l0_succ, r.n_byt]
    by_cases c : j < x.length
    · rw [decide_eq_true (show Int.ofNat j < Int.ofNat x.length by simp; omega), cond_true]
      obtain ⟨p, e1, e2⟩ := r.byte (List.getElem?_eq_getElem c)
      rw [r.n_byt] at e1
      rw [e1]
      simp only [asP_ptr, Option.bind_some, e2, asI_int]
      rw [or_step (by rw [ha]; exact unbe_take_lt (by omega))]
      simp only [Option.bind_some]
      rw [wrap_succ (by omega)]
      have ht : x.take (j + 1) = x.take j ++ [x[j]] := by simp
      exact from_l0 k r hx f (j + 1) _ (by omega) (by omega) (by rw [ht, unbe_snoc, ha])
    · rw [decide_eq_false (show ¬ Int.ofNat j < Int.ofNat x.length by simp; omega), cond_false]
      rw [List.take_of_length_le (by omega)] at ha
      rw [ha]
theorem from_f (k : Nat) (hk : 1000 < k) {h : H} {s : Sl} {x : List UInt8} (r : SlR 1 h s (byt x)) (hx : x.length ≤ 7) : corbelref7_From.f k s h = some (Int.ofNat (unbe x), h) := by
  unfold corbelref7_From.f
  have := from_l0 k r hx k 0 0 (by omega) (Nat.zero_le _) rfl
  rw [show (0 : Int) = Int.ofNat 0 from rfl, this]; rfl
theorem equal_l0 (k : Nat) {h : H} {s t : Sl} {x y : List UInt8} (r : SlR 1 h s (byt x)) (q : SlR 1 h t (byt y)) (hl : x.length = y.length) (hx : x.length < 9223372036854775807) : ∀ f j, x.length - j < f → j ≤ x.length → x.take j = y.take j →
    slices_Equal_byte_byte.l0 k f s t (Int.ofNat x.length) (Int.ofNat j) h = some (if x = y then .inr () else .inl false, h)
  | 0, j, hf, _, _ => by omega
  | f + 1, j, hf, hj, ha => by
    rw [slices_Equal_byte_byte.l0_succ]
    by_cases c : j < x.length
    · rw [decide_eq_true (show Int.ofNat j < Int.ofNat x.length by simp; omega), cond_true]
      obtain ⟨p, e1, e2⟩ := r.byte (List.getElem?_eq_getElem c)
      obtain ⟨p', e3, e4⟩ := q.byte (List.getElem?_eq_getElem (show j < y.length by omega))
      rw [e1, e3]
      simp only [asP_ptr, Option.bind_some, e2, e4, asI_int]
      by_cases d : x[j] = y[j]
      · rw [d, show (Int.ofNat (y[j]'(by omega)).toNat != Int.ofNat (y[j]'(by omega)).toNat) = false by simp, cond_false, wrap_succ (by omega)]
        refine equal_l0 k r q hl hx f (j + 1) (by omega) (by omega) ?_
        have h1 : x.take (j + 1) = x.take j ++ [x[j]] := by simp
        have h2 : y.take (j + 1) = y.take j ++ [y[j]'(by omega)] := by simp
        rw [h1, h2, ha, d]
      · have : (Int.ofNat x[j].toNat != Int.ofNat (y[j]'(by omega)).toNat) = true := by
          simp only [bne_iff_ne, ne_eq]
          intro f
          exact d (UInt8.toNat_inj.1 (Int.ofNat.inj f))
        rw [this, cond_true, if_neg]
        intro f
        subst f
        exact d rfl
    · rw [decide_eq_false (show ¬ Int.ofNat j < Int.ofNat x.length by simp; omega), cond_false]
      rw [List.take_of_length_le (by omega), List.take_of_length_le (by omega)] at ha
      rw [if_pos ha]
theorem equal_f (k : Nat) {h : H} {s t : Sl} {x y : List UInt8} (r : SlR 1 h s (byt x)) (q : SlR 1 h t (byt y)) (hx : x.length < k) (hx2 : x.length < 9223372036854775807) : slices_Equal_byte_byte.f k s t h = some (decide (x = y), h) := by
  unfold slices_Equal_byte_byte.f
  rw [r.n_byt, q.n_byt]
  by_cases c : x.length = y.length
  · rw [c, show (Int.ofNat y.length != Int.ofNat y.length) = false by simp, cond_false, ← c]
    have := equal_l0 k r q c hx2 k 0 (by omega) (Nat.zero_le _) (by simp)
    rw [show (0 : Int) = Int.ofNat 0 from rfl, this]
    by_cases d : x = y
    · rw [if_pos d, decide_eq_true d]; rfl
    · rw [if_neg d, decide_eq_false d]; rfl
  · have : (Int.ofNat x.length != Int.ofNat y.length) = true := by
      simp only [bne_iff_ne, ne_eq]
      intro f
      exact c (Int.ofNat.inj f)
    rw [this, cond_true, decide_eq_false]
    intro f; exact c (by rw [f])
theorem within_f (k : Nat) (n a b : Int) (h : H) : meta_within.f k n a b h = some (decide (a ≤ n ∧ n ≤ b), h) := by
  unfold meta_within.f
  by_cases c : a ≤ n
  · rw [decide_eq_true (show n ≥ a from c), cond_true]
    by_cases d : n ≤ b
    · rw [decide_eq_true d, decide_eq_true ⟨c, d⟩]; rfl
    · rw [decide_eq_false d, decide_eq_false (fun f => d f.2)]; rfl
  · rw [decide_eq_false (show ¬ n ≥ a from c), cond_false, decide_eq_false (fun f => c f.1)]; rfl
theorem few_f (k : Nat) {h : H} (w : WF h) {s : Sl} {x : List UInt8} (r : SlR 1 h s (byt x)) (n : Nat) (hn : n ≤ 140737488355328) (m : Int) (hm : m = Int.ofNat n) :
    ∃ t h', corbelhand_Few.f k s m h = some (t, h') ∧ Ch0 h h' ∧ Ow 5 1 h' t (byt (x.take n)) ∧ (∀ b, SlB t b → h.next ≤ b) := by
  subst hm
  unfold corbelhand_Few.f
  have e : (cond (decide (Int.ofNat n < Int.ofNat s.n)) (Int.ofNat n) (Int.ofNat s.n)) = Int.ofNat (min n x.length) := by
    rw [r.n_byt]
    by_cases c : n < x.length
    · rw [decide_eq_true (show Int.ofNat n < Int.ofNat x.length by simp; omega), cond_true, Nat.min_eq_left (by omega)]
    · rw [decide_eq_false (show ¬ Int.ofNat n < Int.ofNat x.length by simp; omega), cond_false, Nat.min_eq_right (by omega)]
  rw [e]
  obtain ⟨s1, a1, a2, a3, a4⟩ := subb_ok r (lo := 0) (hi := min n x.length) (Nat.zero_le _) (Nat.min_le_right _ _) (xlo := none) (xhi := some (Int.ofNat (min n x.length))) rfl rfl
  rw [a1]
  simp only [asS_slv, Option.bind_some]
  have ht : x.take (min n x.length) = x.take n := by
    by_cases c : n ≤ x.length
    · rw [Nat.min_eq_left c]
    · rw [Nat.min_eq_right (by omega), List.take_of_length_le (Nat.le_refl _), List.take_of_length_le (by omega)]
  rw [List.drop_zero, Nat.sub_zero, ht] at a3
  obtain ⟨n1, n2, n3⟩ := newR_ok w 5 1 []
  have ow : Ow 5 1 (newR h 5 1 []) ⟨some ⟨h.next, 0, none⟩, 0, 0⟩ (byt []) := Ow.of_is n3 rfl (by unfold unk; omega)
  obtain ⟨t, h', b1, b2, b3, b4⟩ := app_b n1.wf ow (a3.stay w n1) (by rw [List.length_take]; show 0 + _ ≤ _; omega)
  rw [b1]
  have hb : ∀ b, SlB ⟨some ⟨h.next, 0, none⟩, 0, 0⟩ b → h.next ≤ b := fun b hb => by obtain ⟨o, q⟩ := hb; have : h.next = b := congrArg Addr.block (Option.some.inj q); omega
  refine ⟨t, h', rfl, Ch0.own n1 b2 hb, by simpa using b3, fun b hb' => (b4 b hb').elim (hb b) fun f => by omega⟩
def cutL (b : List UInt8) (lo hi : Nat) : List UInt8 := (b.drop lo).take (hi - lo)
theorem cutL_len {b : List UInt8} {lo hi : Nat} (h : hi ≤ b.length) : (cutL b lo hi).length = hi - lo := by unfold cutL; rw [List.length_take, List.length_drop]; omega
theorem unbe_lt {x : List UInt8} {n s : Nat} (h : x.length = s) (hs : 256 ^ s ≤ n) : unbe x < n := by
  have := unbe_bound x
  rw [h] at this; omega
theorem cutL_app {x y : List UInt8} {lo hi : Nat} (h : hi ≤ x.length) : cutL (x ++ y) lo hi = cutL x lo hi := by
  unfold cutL
  by_cases c : lo ≤ x.length
  · rw [List.drop_append_of_le_length c, List.take_append_of_le_length (by rw [List.length_drop]; omega)]
  · have : hi - lo = 0 := by omega
    rw [this]; simp
theorem cutL_take {x : List UInt8} {lo hi k : Nat} (h : hi ≤ k) : cutL (x.take k) lo hi = cutL x lo hi := by
  unfold cutL
  rw [List.drop_take, List.take_take, Nat.min_eq_left (by omega)]
theorem xor_u8 (a b : UInt8) : intA .xor .u8 (Int.ofNat a.toNat) (Int.ofNat b.toNat) = some (.int .u8 (Int.ofNat (a ^^^ b).toNat)) := by
  have ha := a.toNat_lt
  have hb := b.toNat_lt
  show cond (Nat.blt a.toNat (2 ^ 8) && Nat.blt b.toNat (2 ^ 8)) (some (Value.int .u8 (wrapA .u8 (Int.ofNat (Nat.xor a.toNat b.toNat))))) none = _
  rw [cond_eta _ _ _ (by rw [Bool.and_eq_true]; exact ⟨Nat.ble_eq_true_of_le (by omega), Nat.ble_eq_true_of_le (by omega)⟩)]
  have e : Nat.xor a.toNat b.toNat = (a ^^^ b).toNat := by rw [UInt8.toNat_xor]; rfl
  have hc := (a ^^^ b).toNat_lt
  rw [e, wrap_u8_in (by simp) (by simp only [Int.ofNat_eq_natCast]; omega)]
theorem nn (x : Int) (h : 0 ≤ x) : x = Int.ofNat x.toNat := (Int.toNat_of_nonneg h).symm
theorem Ch0.at {h0 h h' : H} {r : Nat} (c : Ch0 h0 h) (d : Ch (fun b => b = r) h h') (hr : h0.next ≤ r) : Ch0 h0 h' := c.trans d fun x hx f => by omega
theorem unbe1 (c : UInt8) : unbe [c] = c.toNat := by unfold unbe unbeA unbeA; omega
/-- a number out of a slice, by the reference -/
theorem from_at (k : Nat) (hk : 1000 < k) {h g : H} {s : Sl} {x : List UInt8} (r : SlR 1 h s (byt x)) (w : WF h) (c : Ch0 h g) (lo hi : Nat) (h1 : lo ≤ hi) (h2 : hi ≤ x.length) (h3 : hi - lo ≤ 7) {xlo : Option Int} {β : Type} (f : Int × H → Option β) (hlo : bnd xlo 0 = some lo) :
    ((asS (subs 1 (.slice s.a s.n s.c) xlo (some (Int.ofNat hi)))).bind fun s1 => (corbelref7_From.f k s1 g).bind f) = f (Int.ofNat (unbe (cutL x lo hi)), g) := by
  obtain ⟨s', e1, e2, e3, e4⟩ := subb_ok r h1 h2 hlo (xhi := some (Int.ofNat hi)) rfl
  rw [e1]
  simp only [asS_slv, Option.bind_some]
  rw [from_f k hk (e3.stay w c) (by show (cutL x lo hi).length ≤ 7; rw [cutL_len h2]; exact h3)]; rfl
theorem byte_at {h g : H} {s : Sl} {x : List UInt8} (r : SlR 1 h s (byt x)) (w : WF h) (c : Ch0 h g) {j : Nat} (hj : j < x.length) : ∃ b o, ixs 1 s.a s.n (Int.ofNat j) = some (.pointer (some ⟨b, o, none⟩)) ∧ ldc g (some ⟨b, o, none⟩) = some (.int .u8 (Int.ofNat (unbe (cutL x j (j + 1))))) ∧ b < h.next := by
  obtain ⟨b, o, h1, h2⟩ := (r.stay w c).elem (j := j) (by rw [r.n_byt]; exact hj)
  refine ⟨b, o, h1, ?_, ?_⟩
  · have := gets_cell h2 (i := 0) (by omega)
    rw [Nat.add_zero] at this
    show g.cell b o = _
    rw [this, List.getElem?_take, if_pos (by omega), List.getElem?_drop, Nat.mul_one, Nat.add_zero, byt_get, List.getElem?_eq_getElem hj]
    have : cutL x j (j + 1) = [x[j]] := by
      unfold cutL
      rw [show j + 1 - j = 1 by omega, List.drop_eq_getElem_cons hj]; rfl
    rw [this, unbe1]; rfl
  · obtain ⟨b', o', h3, h4⟩ := r.elem (j := j) (by rw [r.n_byt]; exact hj)
    rw [h1] at h3
    cases h3
    rcases Nat.lt_or_ge b h.next with q | q
    · exact q
    · unfold H.gets at h4; rw [w.dom b q] at h4; cases h4
end Go.Proofs.Ytfenkpghcbohdaa.Fw
