/- ExtentLays: its two loops. No condition. -/
import Derived.Test.YtfenkpghcbohdaaFwExt
import Derived.Lib.Strings
namespace Go.Proofs.Ytfenkpghcbohdaa.Fw
open Go Den Fwd
set_option linter.unusedVariables false
set_option linter.unusedSimpArgs false
theorem ints_at {h : H} {s : Sl} {l : List Int} (r : SlR 1 h s (ivs l)) {j : Nat} {n : Int} (hj : l[j]? = some n) : ∃ p, ixs 1 s.a s.n (Int.ofNat j) = some (.pointer p) ∧ ldc h p = some (.int .i64 n) := by
  have hl := r.len
  rw [ivs_len] at hl
  have hjl : j < l.length := by
    rcases Nat.lt_or_ge j l.length with q | q
    · exact q
    · rw [List.getElem?_eq_none q] at hj; cases hj
  obtain ⟨p, h1, h2⟩ := r.elem1 (j := j) (by omega)
  exact ⟨p, h1, by rw [h2, ivs_get, hj]; rfl⟩
theorem MapD.put {h : H} (w : WF h) {b : Nat} {C : Nat → Prop} {DB : Int → Option (List UInt8)} (r : MapD h b C DB) (n : Int) {s : Sl} {x : List UInt8} (hs : SlR 1 h s (byt x)) (hc : ∀ c, SlB s c → c ≠ b) (hC : ∀ c, C c → c < h.next ∧ c ≠ b) (hsl : ∀ c, SlB s c → c < h.next) :
    ∃ h', mput (some b) (.int .i64 n) (slv s) h = some (undef, h') ∧ Ch (fun c => c = b) h h' ∧ h'.next = h.next ∧ MapD h' b (fun c => C c ∨ SlB s c) fun m => if m = n then some x else DB m := by
  obtain ⟨D, h1, h2⟩ := r
  obtain ⟨h', e1, e2, e3, e4⟩ := mput_ok w h1 n (slv s)
  refine ⟨h', e1, e2, e3, _, e4, fun m => ?_⟩
  by_cases q : m = n
  · refine .inr ⟨s, x, if_pos q, if_pos q, hs.keep fun c hb => e2.keep c (hsl c hb) (hc c hb), fun c hb => .inr hb⟩
  · rcases h2 m with ⟨d1, d2⟩ | ⟨t, y, d1, d2, d3, d4⟩
    · exact .inl ⟨(if_neg q).trans d1, (if_neg q).trans d2⟩
    · exact .inr ⟨t, y, (if_neg q).trans d1, (if_neg q).trans d2, d3.keep fun c hb => e2.keep c (hC c (d4 c hb)).1 (hC c (d4 c hb)).2, fun c hb => .inl (d4 c hb)⟩
theorem lays_l0 (k : Nat) (hk : 1000 < k) {h0 : H} {s : Sl} {l : List Int} (rs : SlR 1 h0 s (ivs l)) (mb : Nat) (hsb : ∀ b, SlB s b → b < h0.next ∧ b ≠ mb) (hmb : mb < h0.next) (a3 : Int) (old : Sl) (x : Int) : ∀ n i h C DB, 12 - i < n → i ≤ 12 → Ch (fun b => b = mb) h0 h → MapD h mb C DB → (∀ c, C c → h0.next ≤ c ∧ c < h.next) →
    ∃ h' C' DB', corbellaw17_ExtentLays.l0 k n s a3 old x (some mb) (Int.ofNat i) h = some ((), h') ∧ Ch (fun b => b = mb) h0 h' ∧ MapD h' mb C' DB' ∧ (∀ c, C' c → h0.next ≤ c ∧ c < h'.next)
  | 0, i, h, C, DB, hn, _, _, _, _ => by omega
  | n + 1, i, h, C, DB, hn, hi, hc, hm, hC => by
    rw [corbellaw17_ExtentLays.l0_succ]
    have hl := rs.len
    rw [ivs_len, Nat.mul_one] at hl
    rw [← hl]
    by_cases c : i < l.length ∧ i < 12
    · rw [decide_eq_true (show Int.ofNat i < Int.ofNat l.length by simp; omega), decide_eq_true (show Int.ofNat i < (12 : Int) by simp; omega)]
      simp only [cond_true, Option.bind_some]
      have rs' := rs.keep (h' := h) fun b hb => hc.keep b (hsb b hb).1 (hsb b hb).2
      obtain ⟨p, f1, f2⟩ := ints_at rs' (List.getElem?_eq_getElem c.1)
      rw [hl, f1]
      simp only [asP_ptr, Option.bind_some, f2, asI_int]
      rw [pick_f k _ 14 h (by decide) (by decide)]
      simp only [asP_ptr, Option.bind_some, f2, asI_int]
      have le0 := hc.le
      have fin : ∀ (N : Nat), N ≤ 1000 → ∀ (sd key : Int), ∃ h' C' DB', ((corbelhand_Bytes.f k sd (Int.ofNat N) h).bind fun q19 =>
          (mput (some mb) (Value.int .i64 key) (Value.slice q19.1.a q19.1.n q19.1.c) q19.2).bind fun q20 =>
          corbellaw17_ExtentLays.l0 k n s a3 old x (some mb) (wrapA .i64 (Int.ofNat i + (1 : Int))) q20.2) = some ((), h') ∧ Ch (fun b => b = mb) h0 h' ∧ MapD h' mb C' DB' ∧ (∀ c, C' c → h0.next ≤ c ∧ c < h'.next) := by
        intro N hN sd key
        obtain ⟨h1, y, b1, b2, b3, b4, b5⟩ := bytes_f k hk sd N hN hc.wf
        rw [b1]
        simp only [Option.bind_some]
        have mlt : mb < h.next := by omega
        have hm1 : MapD h1 mb C DB := hm.keep (b2.keep mb mlt fun f => f) fun q hq => ⟨b2.keep q (hC q hq).2 fun f => f, hq⟩
        obtain ⟨h2, d1, d2, d3, d4⟩ := hm1.put b2.wf key (s := ⟨some ⟨h.next, 0, none⟩, N, N⟩) (SlR.of_is b4 (by rw [byt_len, b5, Nat.mul_one]) (by unfold unk; omega)) (fun q hq => by obtain ⟨o, e⟩ := hq; cases e; omega) (fun q hq => ⟨by have := (hC q hq).2; omega, by have := (hC q hq).1; omega⟩) (fun q hq => by obtain ⟨o, e⟩ := hq; cases e; omega)
        rw [show mput (some mb) (Value.int .i64 key) (Value.slice (some ⟨h.next, 0, none⟩) N N) h1 = _ from d1]
        simp only [Option.bind_some]
        rw [wrap_succ (by omega)]
        refine lays_l0 k hk rs mb hsb hmb a3 old x n (i + 1) h2 _ _ (by omega) (by omega) ((hc.trans (b2.mono fun _ _ f => f.elim) fun _ _ f => f).trans d2 fun _ _ f => f) d4 ?_
        rintro q (hq | ⟨o, e⟩)
        · have := hC q hq; omega
        · cases e; omega
      cases g : (l[i].tmod 11 == 10)
      · rw [cond_false]
        simp only [asP_ptr, Option.bind_some, f2, asI_int]
        exact fin 16 (by decide) _ _
      · rw [cond_true]
        simp only [asP_ptr, Option.bind_some, f2, asI_int]
        exact fin 15 (by decide) _ _
    · have hg : (cond (decide (Int.ofNat i < Int.ofNat l.length)) (some (decide (Int.ofNat i < (12 : Int)), h)) (some (false, h)) : Option (Bool × H)) = some (false, h) := by
        by_cases q : i < l.length
        · rw [decide_eq_true (show Int.ofNat i < Int.ofNat l.length by simp; omega), decide_eq_false (show ¬ Int.ofNat i < (12 : Int) by simp; omega)]; rfl
        · rw [decide_eq_false (show ¬ Int.ofNat i < Int.ofNat l.length by simp; omega)]; rfl
      rw [hg]
      simp only [Option.bind_some, cond_false]
      exact ⟨h, C, DB, rfl, hc, hm, hC⟩

theorem txt_sl {h : H} {s : Sl} {bs : List UInt8} (r : SlR 1 h s (byt bs)) : asT (txt h (.slice s.a s.n s.c)) = some ⟨bs.toArray⟩ := by rw [txt_ok r]; rfl
theorem wantP_len {ob : List UInt8} {DB : Int → Option (List UInt8)} {x : Int} {q : Nat} (hq : q < 8) : (wantP ob DB x q).length = 16 := by
  have hb : (baseP ob q).length = 16 := by
    unfold baseP piece
    split
    · simp; omega
    · exact List.length_replicate
  unfold wantP
  split
  · split
    · assumption
    · exact hb
  · exact hb
def zs16 : List UInt8 := List.replicate 16 0
theorem ba_eq (a b : List UInt8) : ((ByteArray.mk a.toArray).toList == (ByteArray.mk b.toArray).toList) = decide (a = b) := by
  have e : ∀ l : List UInt8, (ByteArray.mk l.toArray).toList = l := fun l => by
    rw [Lib.toList_data]
  rw [e, e]
  by_cases q : a = b
  · rw [q]; simp
  · rw [decide_eq_false q]; simpa using q

theorem as2_ok (v : Sl) (b : Bool) : as2 .sl (some (.tuple #[slv v, .bool b])) = some (v, b) := rfl
def allZ (f : Nat → List UInt8) : Nat → Bool
  | 0 => true
  | j + 1 => allZ f j && decide (f j = zs16)
theorem lays_l1 (k : Nat) (hk : 1000 < k) {h0 : H} {s o : Sl} {ob cur : List UInt8} (rs : SlR 1 h0 s (byt ob)) (hsb : ∀ b, SlB s b → b < h0.next) (ro : SlR 1 h0 o (byt cur)) (hob : ∀ b, SlB o b → b < h0.next) (hcur : cur.length = 128)
    {mb : Nat} {C : Nat → Prop} {DB : Int → Option (List UInt8)} (hm : MapD h0 mb C DB) (hmb : mb < h0.next) (hC : ∀ c, C c → c < h0.next) {x : Nat} (hx : x < 30) (hp : ∀ q, q < 8 → piece cur q = wantP ob DB (Int.ofNat x) q) :
    ∀ n j h all, 8 - j < n → j ≤ 8 → Ch (fun _ => False) h0 h → all = allZ (wantP ob DB (Int.ofNat x)) j →
    ∃ h', corbellaw17_ExtentLays.l1 k n s (Int.ofNat x) (some mb) o all (Int.ofNat j) h = some (.inr (allZ (wantP ob DB (Int.ofNat x)) 8), h') ∧ Ch (fun _ => False) h0 h'
  | 0, j, h, all, hn, _, _, _ => by omega
  | n + 1, j, h, all, hn, hj, hc, ha => by
    rw [corbellaw17_ExtentLays.l1_succ]
    by_cases c : j < 8
    · rw [decide_eq_true (show Int.ofNat j < (8 : Int) by simp; omega), cond_true]
      have le0 := hc.le
      obtain ⟨z1, z2, z3⟩ := newZ_ok hc.wf 5 1 (.int .u8 0) 16
      have z3' : Is (newZ h 5 1 [.int .u8 0] 16) h.next 5 1 (byt zs16) := by unfold zs16; rw [byt_rep]; rw [Nat.mul_one] at z3; exact z3
      have c1 : Ch (fun _ => False) h0 (newZ h 5 1 [.int .u8 0] 16) := hc.trans z1 fun _ _ f => f
      generalize hh : newZ h 5 1 [Value.int .u8 0] 16 = h1 at *
      rw [show asT (txt h1 (Value.slice (some ⟨h.next, 0, none⟩) 16 16)) = some ⟨zs16.toArray⟩ from txt_sl (s := ⟨some ⟨h.next, 0, none⟩, 16, 16⟩) (SlR.of_is z3' (by rw [byt_len]; rfl) (by unfold unk; omega))]
      simp only [Option.bind_some]
      have w1 : wrapA .i64 (Int.ofNat j * 16) = Int.ofNat (16 * j) := by rw [wrap_in (by simp; omega) (by simp; omega)]; simp; omega
      have w2 : wrapA .i64 (wrapA .i64 (Int.ofNat j + 1) * 16) = Int.ofNat (16 * (j + 1)) := by rw [wrap_succ (by omega), wrap_in (by simp; omega) (by simp; omega)]; simp; omega
      rw [w1, w2]
      have rs1 := rs.keep (h' := h1) fun b hb => c1.keep b (hsb b hb) fun f => f
      have ro1 := ro.keep (h' := h1) fun b hb => c1.keep b (hob b hb) fun f => f
      have hs := rs.len
      have ho := ro.len
      rw [byt_len, Nat.mul_one] at hs ho
      have cut : ∀ {t : Sl} {l : List UInt8}, SlR 1 h1 t (byt l) → l.length = 128 → ∃ t' : Sl, asS (subs 1 (.slice t.a t.n t.c) (some (Int.ofNat (16 * j))) (some (Int.ofNat (16 * (j + 1))))) = some t' ∧ SlR 1 h1 t' (byt (piece l j)) := by
        intro t l rt hl
        have ht := rt.len
        rw [byt_len, Nat.mul_one] at ht
        obtain ⟨t', e1, e2, e3, e4⟩ := subs_ok rt (lo := 16 * j) (hi := 16 * (j + 1)) (by omega) (by omega) (xlo := some (Int.ofNat (16 * j))) (xhi := some (Int.ofNat (16 * (j + 1)))) rfl rfl
        refine ⟨t', by rw [e1]; rfl, ?_⟩
        have : byt (piece l j) = ((byt l).drop (16 * j * 1)).take ((16 * (j + 1) - 16 * j) * 1) := by
          unfold piece byt
          rw [List.map_take, List.map_drop, Nat.mul_one, Nat.mul_one, show 16 * (j + 1) - 16 * j = 16 by omega]
        rw [this]; exact e3
      -- the base
      have hbase : ((cond ((Int.ofNat s.n) == (128 : Int))
      ((asS (subs 1 (Value.slice s.a s.n s.c) (some (Int.ofNat (16 * j))) (some (Int.ofNat (16 * (j + 1)))))).bind fun s35 =>
    (asT (txt h1 (Value.slice s35.a s35.n s35.c))).bind fun s36 =>
    some (s36, h1))
      (some (⟨zs16.toArray⟩, h1))) : Option ((ByteArray) × H)) = some (⟨(baseP ob j).toArray⟩, h1) := by
        by_cases g : ob.length = 128
        · rw [show ((Int.ofNat s.n == (128 : Int)) = true) by rw [← hs, g]; rfl, cond_true]
          obtain ⟨t', e1, e2⟩ := cut rs1 g
          rw [e1]
          simp only [Option.bind_some]
          rw [txt_sl e2]
          unfold baseP; rw [if_pos g]; rfl
        · rw [show ((Int.ofNat s.n == (128 : Int)) = false) by rw [beq_eq_false_iff_ne, ← hs]; simp; omega, cond_false]
          unfold baseP; rw [if_neg g]; rfl
      rw [hbase]
      simp only [Option.bind_some]
      have hkey : wrapA .i64 (wrapA .i64 (Int.ofNat x * 8) + Int.ofNat j) = Int.ofNat x * 8 + j := by
        rw [wrap_in (n := Int.ofNat x * 8) (by simp; omega) (by simp; omega), wrap_in (by simp; omega) (by simp; omega)]; rfl
      rw [hkey]
      obtain ⟨D, m1, m2⟩ := hm.keep (h' := h1) (C' := C) (c1.keep mb hmb fun f => f) fun q hq => ⟨c1.keep q (hC q hq) fun f => f, hq⟩
      rw [mlook2_ok m1]
      -- what is wanted
      have hwant : ∃ v : Sl, ∃ b : Bool, (∀ {β : Type} (f : Kd.sl.T × Bool → Option β), (as2 .sl (some (.tuple #[(D (Int.ofNat x * 8 + j)).getD (Value.slice none 0 0), .bool (D (Int.ofNat x * 8 + j)).isSome]))).bind f = f (show Kd.sl.T × Bool from (v, b))) ∧
          (((cond b (some ((Int.ofNat v.n) == (16 : Int), h1)) (some (false, h1)) : Option (Bool × H)).bind fun g39 =>
    (cond g39.1
      ((asT (txt g39.2 (Value.slice v.a v.n v.c))).bind fun s40 =>
    some (s40, g39.2))
      (some ((⟨(baseP ob j).toArray⟩ : ByteArray), g39.2)) : Option ((ByteArray) × H))) = some (⟨(wantP ob DB (Int.ofNat x) j).toArray⟩, h1)) := by
        rcases m2 (Int.ofNat x * 8 + j) with ⟨d1, d2⟩ | ⟨t, d, d1, d2, d3, d4⟩
        · refine ⟨⟨none, 0, 0⟩, false, fun f => by rw [d2]; rfl, ?_⟩
          unfold wantP; rw [d1]; rfl
        · refine ⟨t, true, fun f => by rw [d2]; rfl, ?_⟩
          have ht := d3.len
          rw [byt_len, Nat.mul_one] at ht
          rw [cond_true, Option.bind_some]
          unfold wantP; rw [d1]
          by_cases g : d.length = 16
          · rw [show ((Int.ofNat t.n == (16 : Int)) = true) by rw [← ht, g]; rfl]
            simp only [cond_true]
            rw [txt_sl d3]
            simp only [Option.bind_some, g, if_true]
          · rw [show ((Int.ofNat t.n == (16 : Int)) = false) by rw [beq_eq_false_iff_ne, ← ht]; simp; omega]
            simp only [cond_false, g, if_false]
      obtain ⟨v, b, v1, v2⟩ := hwant
      rw [v1]
      dsimp only
      rw [← Option.bind_assoc, v2]
      simp only [Option.bind_some]
      obtain ⟨o', o1, o2⟩ := cut ro1 hcur
      rw [o1]
      simp only [Option.bind_some]
      rw [txt_sl o2, hp j c]
      simp only [Option.bind_some]
      rw [ba_eq, decide_eq_true (show wantP ob DB (Int.ofNat x) j = wantP ob DB (Int.ofNat x) j from rfl)]
      simp only [Bool.not_true, cond_false]
      obtain ⟨y1, y2, y3⟩ := newZ_ok c1.wf 5 1 (.int .u8 0) 16
      have y3' : Is (newZ h1 5 1 [.int .u8 0] 16) h1.next 5 1 (byt zs16) := by unfold zs16; rw [byt_rep]; rw [Nat.mul_one] at y3; exact y3
      have next : ∀ all' h2, all' = allZ (wantP ob DB (Int.ofNat x)) (j + 1) → Ch (fun _ => False) h1 h2 → ∃ h', corbellaw17_ExtentLays.l1 k n s (Int.ofNat x) (some mb) o all' (wrapA .i64 (Int.ofNat j + 1)) h2 = some (.inr (allZ (wantP ob DB (Int.ofNat x)) 8), h') ∧ Ch (fun _ => False) h0 h' := by
        intro all' h2 e1 e2
        rw [wrap_succ (by omega)]
        exact lays_l1 k hk rs hsb ro hob hcur hm hmb hC hx hp n (j + 1) h2 all' (by omega) (by omega) (c1.trans e2 fun _ _ f => f) e1
      cases hall : all with
      | true =>
        rw [cond_true, show asT (txt (newZ h1 5 1 [Value.int .u8 0] 16) (Value.slice (some ⟨h1.next, 0, none⟩) 16 16)) = some ⟨zs16.toArray⟩ from txt_sl (s := ⟨some ⟨h1.next, 0, none⟩, 16, 16⟩) (SlR.of_is y3' (by rw [byt_len]; rfl) (by unfold unk; omega))]
        simp only [Option.bind_some]
        rw [ba_eq]
        exact next _ _ (by rw [allZ, ← ha, hall, Bool.true_and]) y1
      | false =>
        rw [cond_false]
        simp only [Option.bind_some]
        exact next _ _ (by rw [allZ, ← ha, hall, Bool.false_and]) (Ch.refl c1.wf)
    · rw [decide_eq_false (show ¬ Int.ofNat j < (8 : Int) by simp; omega), cond_false]
      have : j = 8 := by omega
      subst this
      rw [ha]
      exact ⟨h, rfl, hc⟩
end Go.Proofs.Ytfenkpghcbohdaa.Fw
