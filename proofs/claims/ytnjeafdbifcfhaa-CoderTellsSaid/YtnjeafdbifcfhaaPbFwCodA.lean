/- FwCodA: declarations of other seats' texts, for this one. No condition. -/
import Derived.Test.YtnjeafdbifcfhaaDenHq
import Derived.Test.YtnjeafdbifcfhaaPbFwFld
import Derived.Test.YtnjeafdbifcfhaaPbFF
import Derived.Lib.Strings
namespace Go.Proofs.Ytnjeafdbifcfhaa.Fw
open Go Den Fwd
set_option linter.unusedVariables false
set_option linter.unusedSimpArgs false
theorem pick_f (k : Nat) (n m : Int) (h : H) (h0 : 0 < m) (h1 : m ≤ 4611686018427387904) : corbelhand_Pick.f k n m h = some (n % m, h) := by
  unfold corbelhand_Pick.f
  have e0 : (m == 0) = false := by simp; omega
  have e := Int.tmod_eq_emod (a := n) (b := m)
  have b1 := Int.emod_nonneg n (show m ≠ 0 by omega)
  have b2 := Int.emod_lt_of_pos n h0
  have hm : (m.natAbs : Int) = m := by omega
  have r0 : intA .rem .i64 n m = some (.int .i64 (n.tmod m)) := by
    show cond (m == 0) none (some (Value.int .i64 (n.tmod m))) = _
    rw [e0]; rfl
  rw [r0]
  simp only [asI, if_true, Option.bind_some]
  by_cases hc : 0 ≤ n ∨ m ∣ n
  · rw [if_pos hc] at e
    have hd : decide (n.tmod m < 0) = false := decide_eq_false (by omega)
    rw [hd, cond_false, Option.bind_some, e]; simp
  · rw [if_neg hc, hm] at e
    have hne : n % m ≠ 0 := fun q => hc (.inr (Int.dvd_of_emod_eq_zero q))
    have hd : decide (n.tmod m < 0) = true := decide_eq_true (by omega)
    rw [hd, cond_true, Option.bind_some, wrap_in (by omega) (by omega), e]
    simp
theorem eqnil25 (s : Sl) : binO1 Try.prog .eql 40 (.slice s.a s.n s.c) (.slice none 0 0) = some (.bool s.a.isNone) := by
  obtain ⟨a, n, c⟩ := s
  cases a <;> simp [binO1, binB, binA, Try.underlying25, eqA]
theorem clone_f (k : Nat) {h : H} (w : WF h) {s : Sl} {x : List UInt8} (r : SlR 1 h s (byt x)) (hx : x.length ≤ 140737488355328) :
    ∃ s' h', slices_Clone_byte_byte.f k s h = some (s', h') ∧ Ch0 h h' ∧ Ow 5 1 h' s' (byt x) ∧ s'.n = s.n ∧ ∀ b, SlB s' b → h.next ≤ b := by
  unfold slices_Clone_byte_byte.f
  rw [eqnil25]
  simp only [asB, Option.bind_some]
  have hn := r.n_byt
  cases hq : s.a with
  | none =>
    have hs : s = ⟨none, 0, 0⟩ ∧ x = [] := by
      rcases r with ⟨r0, rfl | rfl⟩ | ⟨b, o, r1, _⟩
      · exact ⟨rfl, by unfold byt at r0; simpa using r0⟩
      · cases hq
      · rw [hq] at r1; cases r1
    obtain ⟨rfl, rfl⟩ := hs
    exact ⟨⟨none, 0, 0⟩, h, rfl, Ch.refl w, Ow.nil, rfl, fun b hb => by obtain ⟨_, h1⟩ := hb; cases h1⟩
  | some a =>
    obtain ⟨c1, c2, c3⟩ := newR_ok w 5 1 []
    have o1 : Ow 5 1 (newR h 5 1 []) ⟨some ⟨h.next, 0, none⟩, 0, 0⟩ [] := Ow.of_is c3 rfl (by unfold unk; omega)
    obtain ⟨s', h', e1, e2, e3, e4, e5⟩ := apv_ok (by_ := 1) c1.wf o1 (by decide) (r.stay w c1) (by show (0 + s.n) * 1 ≤ _; omega) (byt_one x)
    rw [hq] at e1
    refine ⟨s', h', ?_, c1.trans e2 ?_, by simpa using e3, by simpa using e4, fun b hb => ?_⟩
    · simp only [Option.isNone_some, cond_false]
      rw [e1]; rfl
    · intro b hb hs; obtain ⟨o, h1⟩ := hs; cases h1; exact absurd hb (Nat.lt_irrefl _)
    · rcases e5 b hb with ⟨o, h1⟩ | ⟨h1, h2⟩
      · cases h1; exact Nat.le_refl _
      · rw [c2] at h1; omega

abbrev Parts := List (Sl × List UInt8)
def total : Parts → Nat
  | [] => 0
  | p :: ps => p.2.length + total ps
def joined (ps : Parts) : List UInt8 := (ps.map (·.2)).flatten
theorem joined_len : ∀ ps : Parts, (joined ps).length = total ps
  | [] => rfl
  | p :: ps => by
    have := joined_len ps
    unfold joined at this ⊢
    rw [List.map_cons, List.flatten_cons, List.length_append, this, total]
def PartsR (h : H) (ps : Parts) : Prop := ∀ p ∈ ps, SlR 1 h p.1 (byt p.2)
theorem PartsR.stay {h h' : H} {ps : Parts} (w : WF h) (c : Ch0 h h') (r : PartsR h ps) : PartsR h' ps := fun p hp => (r p hp).stay w c
theorem concat_l0 (k : Nat) {h : H} {s : Sl} {ps : Parts} (r : SlR 1 h s (ps.map fun p => slv p.1)) (hp : PartsR h ps) (hl : ps.length < 1000000) (a0 : Sl) : ∀ n j acc, ps.length - j < n → j ≤ ps.length → acc + total (ps.drop j) ≤ 140737488355328 →
    slices_Concat_byte_byte.l0 k n a0 s (Int.ofNat ps.length) (Int.ofNat acc) (Int.ofNat j) h = some (Int.ofNat (acc + total (ps.drop j)), h)
  | 0, j, acc, hn, _, _ => by omega
  | n + 1, j, acc, hn, hj, ht => by
    rw [slices_Concat_byte_byte.l0_succ]
    have hsn : s.n = ps.length := by have := r.len; simpa using this.symm
    by_cases c : j < ps.length
    · rw [decide_eq_true (show Int.ofNat j < Int.ofNat ps.length by simp; omega), cond_true]
      obtain ⟨p, e1, e2⟩ := r.elem1 (j := j) (by omega)
      rw [List.getElem?_map, List.getElem?_eq_getElem c] at e2
      have hd : ps.drop j = ps[j] :: ps.drop (j + 1) := List.drop_eq_getElem_cons c
      rw [hd, total] at ht ⊢
      have hpn := (hp _ (List.getElem_mem c)).n_byt
      rw [e1]
      simp only [asP_ptr, Option.bind_some, e2, Option.map_some, asS_slv]
      rw [hpn]
      rw [wrap_in (n := Int.ofNat acc + Int.ofNat ps[j].2.length) (by simp; omega) (by simp; omega), show Int.ofNat acc + Int.ofNat ps[j].2.length = Int.ofNat (acc + ps[j].2.length) from rfl, decide_eq_false (show ¬ Int.ofNat (acc + ps[j].2.length) < (0 : Int) by simp; omega)]
      simp only [cond_false, Option.bind_some]
      rw [wrap_succ (by omega), concat_l0 k r hp hl a0 n (j + 1) _ (by omega) (by omega) (by omega), Nat.add_assoc]
    · rw [decide_eq_false (show ¬ Int.ofNat j < Int.ofNat ps.length by simp; omega), cond_false, List.drop_eq_nil_of_le (by omega)]; rfl
theorem concat_l1 (k : Nat) {h0 : H} {s : Sl} {ps : Parts} (w0 : WF h0) (r : SlR 1 h0 s (ps.map fun p => slv p.1)) (hp : PartsR h0 ps) (hl : ps.length < 1000000) (b : Nat) (hb : h0.next ≤ b) : ∀ n j h (pre : List UInt8), ps.length - j < n → j ≤ ps.length → Ch0 h0 h → pre.length + total (ps.drop j) ≤ 140737488355328 → Is h b 5 1 (byt (pre ++ List.replicate (total (ps.drop j)) 0)) →
    ∃ h', slices_Concat_byte_byte.l1 k n s (Int.ofNat ps.length) ⟨some ⟨b, 0, none⟩, pre.length, unkOf 1⟩ (Int.ofNat j) h = some (⟨some ⟨b, 0, none⟩, pre.length + total (ps.drop j), unkOf 1⟩, h') ∧ Ch0 h0 h' ∧ Is h' b 5 1 (byt (pre ++ joined (ps.drop j)))
  | 0, j, h, pre, hn, _, _, _, _ => by omega
  | n + 1, j, h, pre, hn, hj, hc, ht, I => by
    rw [slices_Concat_byte_byte.l1_succ]
    have hsn : s.n = ps.length := by have := r.len; simpa using this.symm
    by_cases c : j < ps.length
    · rw [decide_eq_true (show Int.ofNat j < Int.ofNat ps.length by simp; omega), cond_true]
      obtain ⟨p, e1, e2⟩ := (r.stay w0 hc).elem1 (j := j) (by omega)
      rw [List.getElem?_map, List.getElem?_eq_getElem c] at e2
      have hd : ps.drop j = ps[j] :: ps.drop (j + 1) := List.drop_eq_getElem_cons c
      rw [hd, total] at ht I ⊢
      have hpj := hp _ (List.getElem_mem c)
      have hpn := hpj.n_byt
      rw [e1]
      simp only [asP_ptr, Option.bind_some, e2, Option.map_some, asS_slv]
      rw [apv_eq _ _ _ _ (hpj.stay w0 hc)]
      have I' : Is h b 5 1 (byt pre ++ byt (List.replicate (ps[j].2.length + total (ps.drop (j + 1))) 0)) := by rw [byt_app]; exact I
      obtain ⟨h', u1, u2, u3, u4⟩ := apR_ok (by_ := 1) hc.wf I' (n := pre.length) (m := ps[j].1.n) (new := byt ps[j].2) (by rw [byt_len, Nat.mul_one]) (by rw [byt_len, List.length_replicate]; omega) (by omega) (byt_one _) (by rw [byt_len]; omega)
      rw [u1]
      rw [byt_app, byt_drop, List.drop_replicate, byt_app, show ps[j].2.length + total (ps.drop (j + 1)) - ps[j].1.n * 1 = total (ps.drop (j + 1)) by omega] at u4
      have hlen : pre.length + ps[j].1.n = (pre ++ ps[j].2).length := by rw [List.length_append, hpn]
      have c' : Ch0 h0 h' := ⟨u2.wf, by have := hc.le; omega, fun x hx f => (u2.keep x (by have := hc.le; omega) (by omega)).trans (hc.keep x hx f)⟩
      obtain ⟨h2, v1, v2, v3⟩ := concat_l1 k w0 r hp hl b hb n (j + 1) h' (pre ++ ps[j].2) (by omega) (by omega) c' (by rw [List.length_append]; omega) u4
      rw [show asS2 (some (Value.slice (some ⟨b, 0, none⟩) (pre.length + ps[j].1.n) (unkOf 1), h')) = some ((⟨some ⟨b, 0, none⟩, pre.length + ps[j].1.n, unkOf 1⟩ : Sl), h') from rfl]
      simp only [Option.bind_some]
      rw [wrap_succ (by omega), hlen, v1]
      refine ⟨h2, by rw [List.length_append, Nat.add_assoc], v2, ?_⟩
      rw [List.append_assoc] at v3
      exact v3
    · rw [decide_eq_false (show ¬ Int.ofNat j < Int.ofNat ps.length by simp; omega), cond_false]
      have hd : ps.drop j = [] := List.drop_eq_nil_of_le (by omega)
      rw [hd] at I ⊢
      exact ⟨h, rfl, hc, I⟩
theorem total_zero : ∀ (ps : Parts), total ps = 0 → ∀ p ∈ ps, p.2 = []
  | [], _, p, hp => by cases hp
  | q :: ps, h, p, hp => by
    rw [total] at h
    rcases List.mem_cons.1 hp with rfl | hp
    · exact List.eq_nil_of_length_eq_zero (by omega)
    · exact total_zero ps (by omega) p hp
theorem concat_l1z (k : Nat) {h : H} {s : Sl} {ps : Parts} (r : SlR 1 h s (ps.map fun p => slv p.1)) (hp : PartsR h ps) (hl : ps.length < 1000000) (ht : total ps = 0) : ∀ n j, ps.length - j < n → j ≤ ps.length →
    slices_Concat_byte_byte.l1 k n s (Int.ofNat ps.length) ⟨none, 0, 0⟩ (Int.ofNat j) h = some (⟨none, 0, 0⟩, h)
  | 0, j, hn, _ => by omega
  | n + 1, j, hn, hj => by
    rw [slices_Concat_byte_byte.l1_succ]
    have hsn : s.n = ps.length := by have := r.len; simpa using this.symm
    by_cases c : j < ps.length
    · rw [decide_eq_true (show Int.ofNat j < Int.ofNat ps.length by simp; omega), cond_true]
      obtain ⟨p, e1, e2⟩ := r.elem1 (j := j) (by omega)
      rw [List.getElem?_map, List.getElem?_eq_getElem c] at e2
      have hpj := hp _ (List.getElem_mem c)
      have hpn := hpj.n_byt
      have hz := total_zero ps ht _ (List.getElem_mem c)
      rw [e1]
      simp only [asP_ptr, Option.bind_some, e2, Option.map_some, asS_slv]
      rw [apv_eq _ _ _ _ hpj, hpn, hz]
      rw [show asS2 (apN 5 1 1 (Value.slice none 0 0) ([] : List UInt8).length (byt []) h) = some ((⟨none, 0, 0⟩ : Sl), h) from rfl]
      simp only [Option.bind_some]
      rw [wrap_succ (by omega)]
      exact concat_l1z k r hp hl ht n (j + 1) (by omega) (by omega)
    · rw [decide_eq_false (show ¬ Int.ofNat j < Int.ofNat ps.length by simp; omega), cond_false]
theorem grow_f (k : Nat) {h : H} (w : WF h) {t : Nat} (ht : 0 < t) (ht2 : t ≤ 140737488355328) :
    ∃ h', slices_Grow_byte_byte.f k ⟨none, 0, 0⟩ (Int.ofNat t) h = some (⟨some ⟨h.next, 0, none⟩, 0, unkOf 1⟩, h') ∧ Ch0 h h' ∧ Is h' h.next 5 1 (byt (List.replicate t 0)) := by
  unfold slices_Grow_byte_byte.f
  rw [decide_eq_false (show ¬ Int.ofNat t < (0 : Int) by simp)]
  simp only [cond_false, Option.bind_some]
  have hpv : asI2 .i64 (pv h (capV (none : Option Addr) 0)) = some ((0 : Int), h) := rfl
  simp only [hpv, Option.bind_some]
  rw [show wrapA .i64 ((0 : Int) - Int.ofNat 0) = 0 from rfl, wrap_in (n := Int.ofNat t - 0) (by simp only [Int.ofNat_eq_natCast]; omega) (by simp only [Int.ofNat_eq_natCast]; omega), show Int.ofNat t - 0 = Int.ofNat t from Int.sub_zero _]
  rw [decide_eq_true (show Int.ofNat t > (0 : Int) by simp; omega)]
  simp only [cond_true, hpv, Option.bind_some]
  rw [show asS (subs 1 (Value.slice none 0 0) none (some (0 : Int))) = some (⟨none, 0, 0⟩ : Sl) from rfl]
  simp only [Option.bind_some]
  obtain ⟨c1, c2, c3⟩ := newR_ok w 5 1 ((List.range (t * 1)).map (zAt [Value.int .u8 (0 : Int)]))
  have hz : (List.range (t * 1)).map (zAt [Value.int .u8 (0 : Int)]) = byt (List.replicate t 0) := by
    rw [← byt_rep]
    apply List.ext_getElem?
    intro i
    rw [List.getElem?_map, List.getElem?_replicate, Nat.mul_one]
    by_cases c : i < t
    · rw [List.getElem?_range c, if_pos c]
      simp [zAt, Nat.mod_one]
    · rw [List.getElem?_eq_none (by simpa using c), if_neg c]; rfl
  have e1 : apz 5 1 1 [Value.int .u8 (0 : Int)] (Value.slice none 0 0) (Int.ofNat t) h = some (.slice (some ⟨h.next, 0, none⟩) t (unkOf 1), newR h 5 1 ((List.range (t * 1)).map (zAt [Value.int .u8 (0 : Int)]))) := by
    show cond (Nat.ble (t * 1) 140737488355328 && Nat.ble t 140737488355328 && Nat.beq 1 1) (apN 5 1 1 (.slice none 0 0) t ((List.range (t * 1)).map (zAt [Value.int .u8 (0 : Int)])) h) none = _
    rw [cond_eta _ _ _ (by simp only [Bool.and_eq_true, Nat.ble_eq]; exact ⟨⟨by omega, ht2⟩, rfl⟩)]
    have hg := apN_guard (l := 0) (n := t) (by_ := 1) (sz := 1) (new := (List.range (t * 1)).map (zAt [Value.int .u8 (0 : Int)])) (by omega) (by rw [hz]; exact byt_one _) (by simp)
    simp only [apN, hg, cond_false, beq_false (show t ≠ 0 by omega)]; rfl
  rw [e1]
  rw [show asS2 (some (Value.slice (some ⟨h.next, 0, none⟩) t (unkOf 1), newR h 5 1 ((List.range (t * 1)).map (zAt [Value.int .u8 (0 : Int)])))) = some ((⟨some ⟨h.next, 0, none⟩, t, unkOf 1⟩ : Sl), newR h 5 1 ((List.range (t * 1)).map (zAt [Value.int .u8 (0 : Int)]))) from rfl]
  simp only [Option.bind_some]
  have e2 : subs 1 (Value.slice (some ⟨h.next, 0, none⟩) t (unkOf 1)) none (some (Int.ofNat 0)) = some (.slice (some ⟨h.next, 0, none⟩) 0 (unkOf 1)) := by
    have : ∀ b : Nat, subs 1 (Value.slice (some ⟨b, 0, none⟩) t (unkOf 1)) none (some (Int.ofNat 0)) = slice2 b 0 1 t (unkOf 1) 0 0 := by
      intro b
      unfold subs
      split
      · rename_i e; cases e
      · rename_i e; cases e; rfl
      · rename_i e; cases e
      · rename_i a1 a2 a3; exact (a2 _ _ _ _ rfl).elim
    rw [this]
    unfold slice2
    rw [isUnk_unkOf, cond_true, cond_eta _ _ _ (by simp), beq_false (show (0 : Nat) ≠ t by omega)]; rfl
  rw [e2]
  rw [hz] at c1 c3 ⊢
  exact ⟨_, rfl, c1, c3⟩
theorem concat_f (k : Nat) (hk : 1000 < k) {h : H} (w : WF h) {s : Sl} {ps : Parts} (r : SlR 1 h s (ps.map fun p => slv p.1)) (hp : PartsR h ps) (hl : ps.length < 1000) (ht : total ps ≤ 140737488355328) :
    ∃ s' h', slices_Concat_byte_byte.f k s h = some (s', h') ∧ Ch0 h h' ∧ Ow 5 1 h' s' (byt (joined ps)) ∧ ∀ b, SlB s' b → h.next ≤ b := by
  have hsn : s.n = ps.length := by have := r.len; simpa using this.symm
  unfold slices_Concat_byte_byte.f
  have e0 := concat_l0 k r hp (by omega) s k 0 0 (by omega) (Nat.zero_le _) (by simpa using ht)
  rw [List.drop_zero, Nat.zero_add] at e0
  rw [hsn, show (0 : Int) = Int.ofNat 0 from rfl, e0]
  simp only [Option.bind_some]
  rcases Nat.eq_zero_or_pos (total ps) with z | z
  · rw [z]
    rw [show slices_Grow_byte_byte.f k ⟨none, 0, 0⟩ (Int.ofNat 0) h = some (⟨none, 0, 0⟩, h) from rfl]
    simp only [Option.bind_some]
    rw [concat_l1z k r hp (by omega) z k 0 (by omega) (Nat.zero_le _)]
    have : joined ps = [] := List.eq_nil_of_length_eq_zero (by rw [joined_len, z])
    rw [this]
    exact ⟨⟨none, 0, 0⟩, h, rfl, Ch.refl w, Ow.nil, fun b hb => by obtain ⟨o, q⟩ := hb; cases q⟩
  · obtain ⟨h1, g1, g2, g3⟩ := grow_f k w z ht
    rw [g1]
    simp only [Option.bind_some]
    obtain ⟨h2, v1, v2, v3⟩ := concat_l1 k w r hp (by omega) h.next (Nat.le_refl _) k 0 h1 [] (by omega) (Nat.zero_le _) g2 (by simpa using ht) (by simpa using g3)
    rw [List.drop_zero] at v1 v3
    rw [show ([] : List UInt8).length = 0 from rfl] at v1
    rw [v1]
    refine ⟨⟨some ⟨h.next, 0, none⟩, 0 + total ps, unkOf 1⟩, h2, rfl, v2, .inr ⟨h.next, 0 + total ps, unkOf 1, rfl, by rw [byt_len, joined_len]; omega, by simpa using v3, .inr rfl⟩, fun b hb => ?_⟩
    obtain ⟨o, q⟩ := hb
    have : h.next = b := congrArg Addr.block (Option.some.inj q)
    omega
theorem Ch0.own {h0 h h' : H} {s : Sl} (c : Ch0 h0 h) (d : Ch (SlB s) h h') (hs : ∀ b, SlB s b → h0.next ≤ b) : Ch0 h0 h' :=
  c.trans d fun x hx f => by have := hs x f; omega
/-- bytes behind bytes -/
theorem app_b {h : H} (w : WF h) {s t : Sl} {x y : List UInt8} (r : Ow 5 1 h s (byt x)) (q : SlR 1 h t (byt y)) (hb : x.length + y.length ≤ 140737488355328) :
    ∃ s' h', asS2 (apv 5 1 1 (.slice s.a s.n s.c) (.slice t.a t.n t.c) h) = some (s', h') ∧ Ch (SlB s) h h' ∧ Ow 5 1 h' s' (byt (x ++ y)) ∧ ∀ b, SlB s' b → SlB s b ∨ h.next ≤ b := by
  have hs := r.slr.n_byt
  have ht := q.n_byt
  obtain ⟨s', h', e1, e2, e3, e4, e5⟩ := apv_ok (by_ := 1) w r (by decide) q (by rw [hs, ht]; omega) (byt_one y)
  exact ⟨s', h', e1, e2, by rw [← byt_app]; exact e3, fun b hb => (e5 b hb).imp id fun f => f.1⟩
theorem ba_eq (a b : List UInt8) : ((ByteArray.mk a.toArray).toList == (ByteArray.mk b.toArray).toList) = decide (a = b) := by
  have e : ∀ l : List UInt8, (ByteArray.mk l.toArray).toList = l := fun l => by
    rw [Lib.toList_data]
  rw [e, e]
  by_cases c : a = b
  · subst c; simp
  · rw [decide_eq_false c]; exact beq_eq_false_iff_ne.2 c
theorem txt_sl {h : H} {s : Sl} {bs : List UInt8} (r : SlR 1 h s (byt bs)) : asT (txt h (.slice s.a s.n s.c)) = some ⟨bs.toArray⟩ := by rw [txt_ok r]; rfl
theorem nn (x : Int) (h : 0 ≤ x) : x = Int.ofNat x.toNat := (Int.toNat_of_nonneg h).symm
theorem Ch0.at {h0 h h' : H} {r : Nat} (c : Ch0 h0 h) (d : Ch (fun b => b = r) h h') (hr : h0.next ≤ r) : Ch0 h0 h' := c.trans d fun x hx f => by omega
theorem equal_l0 (k : Nat) {h : H} {s t : Sl} {x y : List UInt8} (r : SlR 1 h s (byt x)) (q : SlR 1 h t (byt y)) (hl : x.length = y.length) (hx : x.length < 9223372036854775807) : ∀ f j, x.length - j < f → j ≤ x.length → x.take j = y.take j →
    slices_Equal_byte_byte.l0 k f s t (Int.ofNat x.length) (Int.ofNat j) h = some (if x = y then .inr () else .inl false, h)
  | 0, j, hf, _, _ => by omega
  | f + 1, j, hf, hj, ha => by
    rw [slices_Equal_byte_byte.l0_succ]
    by_cases c : j < x.length
    · rw [decide_eq_true (show Int.ofNat j < Int.ofNat x.length by simp; omega), cond_true]
      obtain ⟨p, e1, e2⟩ := r.byte (List.getElem?_eq_getElem c)
      obtain ⟨p', e3, e4⟩ := q.byte (List.getElem?_eq_getElem (show j < y.length by omega))
      rw [e1, e3]
      simp only [asP_ptr, Option.bind_some, e2, e4, asI_int]
      by_cases d : x[j] = y[j]
      · rw [d, show (Int.ofNat (y[j]'(by omega)).toNat != Int.ofNat (y[j]'(by omega)).toNat) = false by simp, cond_false, wrap_succ (by omega)]
        refine equal_l0 k r q hl hx f (j + 1) (by omega) (by omega) ?_
        have h1 : x.take (j + 1) = x.take j ++ [x[j]] := by simp
        have h2 : y.take (j + 1) = y.take j ++ [y[j]'(by omega)] := by simp
        rw [h1, h2, ha, d]
      · have : (Int.ofNat x[j].toNat != Int.ofNat (y[j]'(by omega)).toNat) = true := by
          simp only [bne_iff_ne, ne_eq]
          intro f
          exact d (UInt8.toNat_inj.1 (Int.ofNat.inj f))
        rw [this, cond_true, if_neg]
        intro f
        subst f
        exact d rfl
    · rw [decide_eq_false (show ¬ Int.ofNat j < Int.ofNat x.length by simp; omega), cond_false]
      rw [List.take_of_length_le (by omega), List.take_of_length_le (by omega)] at ha
      rw [if_pos ha]
theorem equal_f (k : Nat) {h : H} {s t : Sl} {x y : List UInt8} (r : SlR 1 h s (byt x)) (q : SlR 1 h t (byt y)) (hx : x.length < k) (hx2 : x.length < 9223372036854775807) : slices_Equal_byte_byte.f k s t h = some (decide (x = y), h) := by
  unfold slices_Equal_byte_byte.f
  rw [r.n_byt, q.n_byt]
  by_cases c : x.length = y.length
  · rw [c, show (Int.ofNat y.length != Int.ofNat y.length) = false by simp, cond_false, ← c]
    have := equal_l0 k r q c hx2 k 0 (by omega) (Nat.zero_le _) (by simp)
    rw [show (0 : Int) = Int.ofNat 0 from rfl, this]
    by_cases d : x = y
    · rw [if_pos d, decide_eq_true d]; rfl
    · rw [if_neg d, decide_eq_false d]; rfl
  · have : (Int.ofNat x.length != Int.ofNat y.length) = true := by
      simp only [bne_iff_ne, ne_eq]
      intro f
      exact c (Int.ofNat.inj f)
    rw [this, cond_true, decide_eq_false]
    intro f; exact c (by rw [f])
theorem hbytes_l0 (k : Nat) (b m : Nat) (hm : m ≤ 1000000) {h0 : H} (hb : h0.next ≤ b) : ∀ f j h (x : Int) (l : List UInt8), m - j < f → j ≤ m → Ch0 h0 h → l.length = m → Is h b 5 1 (byt l) →
    ∃ h' l', corbelhand_Bytes.l0 k f (Int.ofNat m) ⟨some ⟨b, 0, none⟩, m, m⟩ x (Int.ofNat j) h = some ((), h') ∧ Ch0 h0 h' ∧ l'.length = m ∧ Is h' b 5 1 (byt l')
  | 0, j, h, x, l, hf, _, _, _, _ => by omega
  | f + 1, j, h, x, l, hf, hj, hc, hl, I => by
    rw [corbelhand_Bytes.l0_succ]
    by_cases c : j < m
    · rw [decide_eq_true (show Int.ofNat j < Int.ofNat m by simp; omega), cond_true]
      rw [show ixs 1 (some ⟨b, 0, none⟩) m (Int.ofNat j) = some (.pointer (some ⟨b, 0 + j * 1, none⟩)) from cond_eta _ _ _ (Nat.ble_eq_true_of_le c)]
      simp only [asP_ptr, Option.bind_some]
      rw [Nat.zero_add, Nat.mul_one]
      generalize (wrapA .u64 ((wrapA .u64 (x * (6364136223846793005 : Int))) + (1442695040888963407 : Int))) = y
      rw [wrap_u8]
      obtain ⟨h', e1, e2, e3, e4⟩ := I.set hc.wf j (.int .u8 (Int.ofNat (u8 (y.fdiv (2 ^ 56))).toNat)) (by rw [byt_len]; omega) rfl
      rw [e1]
      simp only [Option.bind_some]
      rw [wrap_succ (by omega)]
      refine hbytes_l0 k b m hm hb f (j + 1) h' y (l.set j (u8 (y.fdiv (2 ^ 56)))) (by omega) (by omega) ⟨e2.wf, by have := hc.le; omega, fun z hz f => (e2.keep z (by have := hc.le; omega) (by omega)).trans (hc.keep z hz f)⟩ (by simpa using hl) ?_
      have : (byt l).set j (.int .u8 (Int.ofNat (u8 (y.fdiv (2 ^ 56))).toNat)) = byt (l.set j (u8 (y.fdiv (2 ^ 56)))) := by unfold byt; rw [List.map_set]
      rw [← this]; exact e4
    · rw [decide_eq_false (show ¬ Int.ofNat j < Int.ofNat m by simp; omega), cond_false]
      exact ⟨h, l, rfl, hc, hl, I⟩
theorem hbytes_f (k : Nat) (a : Int) (m : Nat) (hm : m ≤ 1000000) (hk : m < k) {h : H} (w : WF h) :
    ∃ d x h', corbelhand_Bytes.f k a (Int.ofNat m) h = some (d, h') ∧ Ch0 h h' ∧ x.length = m ∧ Ow 5 1 h' d (byt x) ∧ ∀ b, SlB d b → h.next ≤ b := by
  unfold corbelhand_Bytes.f
  rw [mkz_ok (.int .u8 0) rfl (by omega) (by omega)]
  rw [show asS2 (some (Value.slice (some ⟨h.next, 0, none⟩) m m, newZ h 5 1 [Value.int .u8 (0 : Int)] m)) = some ((⟨some ⟨h.next, 0, none⟩, m, m⟩ : Sl), newZ h 5 1 [Value.int .u8 (0 : Int)] m) from rfl]
  simp only [Option.bind_some]
  obtain ⟨z1, z2, z3⟩ := newZ_ok w 5 1 (.int .u8 0) m
  rw [Nat.mul_one, byt_rep] at z3
  rw [pick_f k _ 7 _ (by decide) (by decide)]
  simp only [Option.bind_some]
  cases c : (a % 7 == (6 : Int)) with
  | true =>
    exact ⟨_, List.replicate m 0, _, rfl, z1, by simp, Ow.of_is z3 (by simp [byt_len]) (by unfold unk; omega), fun b hb => by
      obtain ⟨o, q⟩ := hb
      have : h.next = b := congrArg Addr.block (Option.some.inj q)
      omega⟩
  | false =>
    rw [cond_false]
    obtain ⟨h', l', e1, e2, e3, e4⟩ := hbytes_l0 k h.next m hm (Nat.le_refl _) k 0 _ (wrapA .u64 ((wrapA .u64 ((wrapA .u64 a) * (2654435761 : Int))) + (12345 : Int))) _ (by omega) (Nat.zero_le _) z1 (by simp) z3
    rw [show (0 : Int) = Int.ofNat 0 from rfl]
    rw [show Value.int IntKind.u8 (Int.ofNat 0) = Value.int .u8 0 from rfl, e1]
    exact ⟨_, l', h', rfl, e2, e3, Ow.of_is e4 (by rw [byt_len]; omega) (by unfold unk; omega), fun b hb => by
      obtain ⟨o, q⟩ := hb
      have : h.next = b := congrArg Addr.block (Option.some.inj q)
      omega⟩
end Go.Proofs.Ytnjeafdbifcfhaa.Fw
