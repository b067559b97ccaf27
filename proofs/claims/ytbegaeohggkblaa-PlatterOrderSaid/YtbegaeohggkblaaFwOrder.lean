/- PlatterOrder, over the platter as plain lists. No condition. -/
import Derived.Test.YtbegaeohggkblaaFwPlat
import Derived.Test.YtbegaeohggkblaaArPlatterOrder
namespace Go.Proofs.Ytbegaeohggkblaa.Fw
open Go Den Fwd
set_option linter.unusedVariables false
set_option linter.unusedSimpArgs false

theorem asP_ptr (p : Option Addr) : asP (some (.pointer p)) = some p := rfl
theorem asI_int (k : IntKind) (n : Int) : asI k (some (.int k n)) = some n := by simp [asI]
/-- an argument of one-cell elements -/
theorem RSl.slr1 {α : Type} {R : H → α → List Value → Prop} {f : α → Value} (hR : ∀ h x l, R h x l → l = [f x]) {h : H} {xs : List α} {vs : List Value} (r : RSl 1 R h xs vs) : ∃ s : Sl, vs = [slv s] ∧ SlR 1 h s (xs.map f) ∧ s.n = xs.length ∧ ∀ b, SlB s b → h.get b ≠ none := by
  obtain ⟨s, r1, r2, r3⟩ := r
  refine ⟨s, r1, ?_, r2, ?_⟩
  rotate_left
  · rintro b ⟨o, hb⟩
    rcases r3 with ⟨_, rfl | rfl⟩ | ⟨_, b', o', r4, _, ls, _, _, _, r9⟩
    · cases hb
    · cases hb
    · rw [r4] at hb; cases hb; rw [r9]; exact fun e => by cases e
  rcases r3 with ⟨rfl, r3⟩ | ⟨r3, b, o, r4, r5, ls, r6, r7, r8, r9⟩
  · exact .inl ⟨rfl, r3⟩
  · have hf : ls.flatten = xs.map f := by
      apply List.ext_getElem?
      intro i
      have hlen : ls.flatten.length = xs.length := by rw [flatten_len ls r7, r6, Nat.mul_one]
      by_cases c : i < xs.length
      · rw [flatten_get ls r7 i (by omega), Nat.div_one, Nat.mod_one, List.getElem?_map]
        have e1 := List.getElem?_eq_getElem c
        have e2 := List.getElem?_eq_getElem (show i < ls.length by omega)
        have := hR _ _ _ (r8 i _ _ e1 e2)
        rw [e1, e2, this]; rfl
      · rw [List.getElem?_eq_none (by omega), List.getElem?_eq_none (by simp; omega)]
    have hl : (xs.map f).length = xs.length := List.length_map _
    refine .inr ⟨b, o, r4, by rw [hl, r2, Nat.mul_one], ?_, .inr r5⟩
    unfold H.gets
    rw [r9, hf]
    show roGets o (xs.map f) o (s.n * 1) = _
    unfold roGets
    rw [cond_eta _ _ _ (by simp [r2]), Nat.sub_self, List.drop_zero, List.take_of_length_le (by rw [hl, r2]; omega)]
/-! ### what the law reckons -/
section
variable (K : Nat → Nat) (B : Nat → Bool)
def lastN : Nat → List Int
  | 0 => List.replicate 5 0
  | i + 1 => if B i then (lastN i).set (K i) (Int.ofNat (i + 1)) else lastN i
def keptN : Nat → List Int
  | 0 => []
  | i + 1 => if B i then keptN i ++ [Int.ofNat i] else keptN i
def pendN : Nat → List (Int × List UInt8)
  | 0 => []
  | i + 1 => pendN i ++ [(Int.ofNat (K i), allb (Int.ofNat (i + 1)))]
def nowN : Nat → List (List UInt8)
  | 0 => List.replicate 5 zeros160
  | i + 1 => (nowN i).set (K i) (allb (Int.ofNat (i + 1)))
theorem lastN_len : ∀ i, (lastN K B i).length = 5
  | 0 => by simp [lastN]
  | i + 1 => by rw [lastN]; split <;> simp [lastN_len i]
theorem nowN_len : ∀ i, (nowN K i).length = 5
  | 0 => by simp [nowN]
  | i + 1 => by rw [nowN]; simp [nowN_len i]
theorem pendN_len : ∀ i, (pendN K i).length = i
  | 0 => rfl
  | i + 1 => by rw [pendN]; simp [pendN_len i]
theorem keptN_len : ∀ i, (keptN B i).length ≤ i
  | 0 => Nat.le_refl _
  | i + 1 => by
    have := keptN_len i
    rw [keptN]; split
    · simp; omega
    · omega
theorem keptN_lt : ∀ i x, x ∈ keptN B i → ∃ j : Nat, j < i ∧ x = Int.ofNat j ∧ B j = true
  | 0, x, h => by simp [keptN] at h
  | i + 1, x, h => by
    rw [keptN] at h
    split at h
    · rename_i hb
      rcases List.mem_append.1 h with q | q
      · obtain ⟨j, h1, h2⟩ := keptN_lt i x q; exact ⟨j, by omega, h2⟩
      · exact ⟨i, by omega, List.mem_singleton.1 q, hb⟩
    · obtain ⟨j, h1, h2⟩ := keptN_lt i x h; exact ⟨j, by omega, h2⟩
theorem keptN_mem : ∀ i j, j < i → B j = true → Int.ofNat j ∈ keptN B i
  | 0, j, h, _ => by omega
  | i + 1, j, h, hb => by
    rw [keptN]
    by_cases c : j = i
    · subst c; rw [if_pos hb]; simp
    · have := keptN_mem i j (by omega) hb
      split
      · exact List.mem_append_left _ this
      · exact this
theorem crashD_snoc (keep : List Int) (q : Int × List UInt8) : ∀ (l : List (Int × List UInt8)) (i : Nat) (d : List (List UInt8)), crashD keep i (l ++ [q]) d = if Int.ofNat (i + l.length) ∈ keep then (crashD keep i l d).set q.1.toNat q.2 else crashD keep i l d
  | [], i, d => rfl
  | x :: l, i, d => by
    rw [List.cons_append, crashD, crashD_snoc keep q l, crashD, List.length_cons, show i + 1 + l.length = i + (l.length + 1) by omega]
theorem crash_last (n : Nat) : ∀ i, i ≤ n → crashD (keptN B n) 0 (pendN K i) (List.replicate 5 zeros160) = (lastN K B i).map allb
  | 0, _ => by rw [pendN, lastN, crashD, List.map_replicate]; rfl
  | i + 1, h => by
    rw [pendN, crashD_snoc, crash_last n i (by omega), pendN_len, Nat.zero_add, lastN]
    by_cases hb : B i = true
    · rw [if_pos (keptN_mem B n i (by omega) hb), if_pos hb, List.map_set]; rfl
    · rw [if_neg, if_neg hb]
      intro hm
      obtain ⟨j, h1, h2, h3⟩ := keptN_lt B n _ hm
      have : i = j := Int.ofNat.inj h2
      subst this; exact hb h3
theorem pendN_at : ∀ i, (pendN K i).map (·.1) = (List.range i).map fun j => Int.ofNat (K j)
  | 0 => rfl
  | i + 1 => by rw [pendN, List.map_append, pendN_at i, List.range_succ, List.map_append]; rfl
end

structure LI (K : Nat → Nat) (B : Nat → Bool) (h0 h : H) (p L : Nat) (M C : Nat → Prop) (order kept : Sl) (i : Nat) : Prop where
  ch : Ch (fun _ => False) h0 h
  pl : PlatR h p M C ⟨List.replicate 5 zeros160, nowN K i, pendN K i, Int.ofNat i⟩
  la : Is h L 56 5 (ivs (lastN K B i))
  lm : ¬ M L ∧ ¬ C L ∧ h0.next ≤ L
  om : Ow 3 1 h order (ivs ((pendN K i).map (·.1)))
  km : Ow 3 1 h kept (ivs (keptN B i))
  ob : ∀ b, SlB order b → ¬ M b ∧ ¬ C b ∧ b ≠ L ∧ h0.next ≤ b
  kb : ∀ b, SlB kept b → ¬ M b ∧ ¬ C b ∧ b ≠ L ∧ h0.next ≤ b ∧ ¬ SlB order b
  mn : ∀ b, M b → h0.next ≤ b
  cn : ∀ b, C b → h0.next ≤ b
theorem order_l0 (k : Nat) (hk : 1000 < k) {h0 : H} (w0 : WF h0) {s t : Sl} {l : List Int} {kp : List Bool} (rs : SlR 1 h0 s (ivs l)) (rt : SlR 1 h0 t (kp.map .bool)) (hsb : ∀ b, SlB s b → b < h0.next) (htb : ∀ b, SlB t b → b < h0.next) (hll : l.length ≤ 9223372036854775807) (hkl : kp.length ≤ 9223372036854775807)
    (K : Nat → Nat) (B : Nat → Bool) (hK : ∀ i n, l[i]? = some n → Int.ofNat (K i) = n % 5) (hB : ∀ i, B i = (kp[i]?).getD false) (p L : Nat) (N : Nat) (hN : N = min l.length 30) : ∀ n i h M C order kept, N - i < n → i ≤ N → LI K B h0 h p L M C order kept i →
    ∃ h' M' C' order' kept', corbellaw7_PlatterOrder.l0 k n s t (some ⟨p, 0, none⟩) (some ⟨L, 0, none⟩) order kept (Int.ofNat i) h = some (.inr (order', kept'), h') ∧ LI K B h0 h' p L M' C' order' kept' N
  | 0, i, h, M, C, order, kept, hn, _, _ => by omega
  | n + 1, i, h, M, C, order, kept, hn, hi, I => by
    rw [corbellaw7_PlatterOrder.l0_succ]
    have hl := rs.len
    rw [ivs_len, Nat.mul_one] at hl
    rw [← hl]
    by_cases c : i < N
    · have hd : decide (Int.ofNat i < Int.ofNat l.length) = true := decide_eq_true (by simp; omega)
      have hd2 : decide (Int.ofNat i < (30 : Int)) = true := decide_eq_true (by simp; omega)
      rw [hd, hd2]
      simp only [cond_true, Option.bind_some]
      have hil : i < l.length := by omega
      have rs' := rs.keep (h' := h) fun b hb => I.ch.keep b (hsb b hb) fun f => f
      obtain ⟨pp, f1, f2⟩ := SlR.int rs' (List.getElem?_eq_getElem hil)
      rw [hl, f1]
      simp only [asP_ptr, Option.bind_some, f2, asI_int]
      have hKi := hK i _ (List.getElem?_eq_getElem hil)
      rw [pick_f k _ 5 h (by decide) (by decide), ← hKi]
      simp only [Option.bind_some]
      rw [wrap_succ (by omega)]
      obtain ⟨h1, a1, a2, a3, a4⟩ := all_f k hk (Int.ofNat (i + 1)) I.ch.wf
      rw [a1]
      simp only [Option.bind_some]
      have hK5 : K i < 5 := by have := Int.emod_lt_of_pos l[i] (show (0 : Int) < 5 by decide); rw [← hKi] at this; simp at this; omega
      have pl1 := I.pl.keep a2 fun b f => f.elim
      obtain ⟨h2, M2, C2, b1, b2, b3, b4, b5⟩ := write_f k a2.wf pl1 (i := K i) (by show K i < (nowN K i).length; rw [nowN_len]; exact hK5) a4.slr List.length_replicate (by show (pendN K i).length ≤ _; rw [pendN_len]; omega) (by show 0 ≤ Int.ofNat i ∧ Int.ofNat i ≤ 1000000; simp; omega)
      rw [b1]
      simp only [Option.bind_some, Bool.not_true, cond_false]
      have le1 := I.ch.le
      have le2 := b2.le
      have c02 : Ch M h h2 := (a2.mono fun _ _ f => f.elim).trans b2 fun _ _ f => f
      have ol : ∀ b, SlB order b → b < h.next := fun b hb => I.om.lt I.ch.wf hb
      have kl : ∀ b, SlB kept b → b < h.next := fun b hb => I.km.lt I.ch.wf hb
      have Ll := I.la.lt I.ch.wf
      have om2 := I.om.keep fun b hb => c02.keep b (ol b hb) (I.ob b hb).1
      have km2 := I.km.keep fun b hb => c02.keep b (kl b hb) (I.kb b hb).1
      have la2 := I.la.keep (c02.keep L Ll I.lm.1)
      have m2 : ∀ b, M2 b → b < h.next → M b := fun b hb hlt => (b4 b hb).resolve_right (by omega)
      have cc2 : ∀ b, C2 b → b < h.next → C b := fun b hb hlt => (b5 b hb).resolve_right (by omega)
      obtain ⟨o3, h3, d1, d2, d3, d4⟩ := push_int b2.wf om2 (Int.ofNat (K i)) (by simp [pendN_len]; omega)
      rw [d1]
      simp only [Option.bind_some]
      have le3 := d2.le
      have ob2 : ∀ b, SlB order b → ¬ M2 b ∧ ¬ C2 b ∧ b ≠ L := fun b hb => ⟨fun m => (I.ob b hb).1 (m2 b m (ol b hb)), fun m => (I.ob b hb).2.1 (cc2 b m (ol b hb)), (I.ob b hb).2.2.1⟩
      have pl3 := b3.keep d2 fun b hb => ⟨(ob2 b hb).1, (ob2 b hb).2.1⟩
      have km3 := km2.keep fun b hb => d2.keep b (by have := kl b hb; omega) (I.kb b hb).2.2.2.2
      have la3 := la2.keep (d2.keep L (by omega) fun f => (ob2 L f).2.2 rfl)
      have c03 : Ch (fun _ => False) h0 h3 := ⟨d2.wf, by omega, fun b hb _ => by
        have e1 := I.ch.keep b hb fun f => f
        have e2 := c02.keep b (by omega) fun f => by have := I.mn b f; omega
        have e3 := d2.keep b (by omega) fun f => by have := (I.ob b f).2.2.2; omega
        exact e3.trans (e2.trans e1)⟩
      have rt' := rt.keep (h' := h3) fun b hb => c03.keep b (htb b hb) fun f => f
      have htl := rt.len
      rw [List.length_map, Nat.mul_one] at htl
      have hg : (cond (decide (Int.ofNat i < Int.ofNat t.n)) ((asP (ixs 1 t.a t.n (Int.ofNat i))).bind fun p19 => (asB (ldc h3 p19)).bind fun b20 => some (b20, h3)) (some (false, h3)) : Option (Bool × H)) = some (B i, h3) := by
        rw [hB, ← htl]
        by_cases q : i < kp.length
        · rw [decide_eq_true (show Int.ofNat i < Int.ofNat kp.length by simp; omega), cond_true, htl]
          obtain ⟨pq, q1, q2⟩ := rt'.elem1 (j := i) (by omega)
          rw [q1]
          simp only [asP_ptr, Option.bind_some, q2]
          rw [List.getElem?_map, List.getElem?_eq_getElem q]; rfl
        · rw [decide_eq_false (show ¬ Int.ofNat i < Int.ofNat kp.length by simp; omega), cond_false, List.getElem?_eq_none (by omega)]; rfl
      have on3 : ∀ b, SlB o3 b → ¬ M2 b ∧ ¬ C2 b ∧ b ≠ L ∧ h0.next ≤ b := fun b hb => by
        rcases d4 b hb with f | f
        · exact ⟨(ob2 b f).1, (ob2 b f).2.1, (ob2 b f).2.2, (I.ob b f).2.2.2⟩
        · exact ⟨fun m => by have := b3.mlt b m; omega, fun m => by have := b3.clt b m; omega, by omega, by omega⟩
      have mn2 : ∀ b, M2 b → h0.next ≤ b := fun b hb => by
        rcases b4 b hb with f | f
        · exact I.mn b f
        · omega
      have cn2 : ∀ b, C2 b → h0.next ≤ b := fun b hb => by
        rcases b5 b hb with f | f
        · exact I.cn b f
        · omega
      have lm2 : ¬ M2 L ∧ ¬ C2 L ∧ h0.next ≤ L := ⟨fun m => I.lm.1 (m2 L m Ll), fun m => I.lm.2.1 (cc2 L m Ll), I.lm.2.2⟩
      have om3 : Ow 3 1 h3 o3 (ivs ((pendN K (i + 1)).map (·.1))) := by rw [pendN, List.map_append]; exact d3
      have pl3' : PlatR h3 p M2 C2 ⟨List.replicate 5 zeros160, nowN K (i + 1), pendN K (i + 1), Int.ofNat (i + 1)⟩ := pl3
      rw [hg]
      simp only [Option.bind_some]
      cases hb : B i with
      | false =>
        simp only [cond_false, Option.bind_some]
        have I' : LI K B h0 h3 p L M2 C2 o3 kept (i + 1) := by
          refine ⟨c03, pl3', ?_, lm2, om3, ?_, on3, fun b hbk => ?_, mn2, cn2⟩
          · rw [lastN, hb, if_neg (by decide)]; exact la3
          · rw [keptN, hb, if_neg (by decide)]; exact km3
          · have := I.kb b hbk
            have q := kl b hbk
            refine ⟨fun m => this.1 (m2 b m q), fun m => this.2.1 (cc2 b m q), this.2.2.1, this.2.2.2.1, fun f => ?_⟩
            rcases d4 b f with g | g
            · exact this.2.2.2.2 g
            · omega
        exact order_l0 k hk w0 rs rt hsb htb hll hkl K B hK hB p L N hN n (i + 1) h3 M2 C2 o3 kept (by omega) (by omega) I'
      | true =>
        simp only [cond_true]
        obtain ⟨k4, h4, g1, g2, g3, g4⟩ := push_int d2.wf km3 (Int.ofNat i) (by have := keptN_len B i; omega)
        rw [g1]
        simp only [Option.bind_some]
        have le4 := g2.le
        have la4 := la3.keep (g2.keep L (by omega) fun f => (I.kb L f).2.2.1 rfl)
        obtain ⟨h5, u1, u2, u3, u4⟩ := stv_ok g2.wf la4 (o := 0 + K i * 1) [.int .i64 (Int.ofNat (i + 1))] (by rw [ivs_len, lastN_len]; simp only [List.length_cons, List.length_nil]; omega) rfl
        rw [show ixs 1 (some ⟨L, 0, none⟩) 5 (Int.ofNat (K i)) = some (.pointer (some ⟨L, 0 + K i * 1, none⟩)) from cond_eta _ _ _ (Nat.ble_eq_true_of_le hK5)]
        rw [show ([Value.int .i64 (Int.ofNat (i + 1))] : List Value).length = 1 from rfl] at u1
        simp only [asP_ptr, Option.bind_some, u1]
        have kq : ∀ b, SlB kept b → ¬ M2 b ∧ ¬ C2 b ∧ b ≠ L ∧ h0.next ≤ b ∧ ¬ SlB o3 b := fun b hbk => by
          have := I.kb b hbk
          have q := kl b hbk
          refine ⟨fun m => this.1 (m2 b m q), fun m => this.2.1 (cc2 b m q), this.2.2.1, this.2.2.2.1, fun f => ?_⟩
          rcases d4 b f with g | g
          · exact this.2.2.2.2 g
          · omega
        have k4b : ∀ b, SlB k4 b → ¬ M2 b ∧ ¬ C2 b ∧ b ≠ L ∧ h0.next ≤ b ∧ ¬ SlB o3 b := fun b hbk => by
          rcases g4 b hbk with f | f
          · exact kq b f
          · exact ⟨fun m => by have := pl3.mlt b m; omega, fun m => by have := pl3.clt b m; omega, by omega, by omega, fun g => by have := om3.lt d2.wf g; omega⟩
        have pl5 := (pl3'.keep g2 fun b hbk => ⟨(kq b hbk).1, (kq b hbk).2.1⟩).keep u2 fun b e => by subst e; exact ⟨lm2.1, lm2.2.1⟩
        have c35 : Ch (fun b => SlB kept b ∨ b = L) h3 h5 := (g2.mono fun _ _ f => .inl f).trans u2 fun _ _ f => .inr f
        have c05 : Ch (fun _ => False) h0 h5 := ⟨u2.wf, by omega, fun b hbk _ => by
          have e1 := c03.keep b hbk fun f => f
          have e2 := c35.keep b (by omega) (by
            rintro (f | f)
            · have := (kq b f).2.2.2.1; omega
            · have := lm2.2.2; omega)
          exact e2.trans e1⟩
        have I' : LI K B h0 h5 p L M2 C2 o3 k4 (i + 1) := by
          refine ⟨c05, pl5, ?_, lm2, om3.keep fun b hbk => c35.keep b (om3.lt d2.wf hbk) ?_, ?_, on3, k4b, mn2, cn2⟩
          · have : over (ivs (lastN K B i)) (0 + K i * 1) [.int .i64 (Int.ofNat (i + 1))] = ivs (lastN K B (i + 1)) := by
              rw [lastN, hb, if_pos rfl, Nat.zero_add, Nat.mul_one]
              apply List.ext_getElem?
              intro j
              rw [over_get (by rw [ivs_len, lastN_len]; simp only [List.length_cons, List.length_nil]; omega), ivs_get, ivs_get, List.getElem?_set, lastN_len]
              by_cases e : K i = j
              · subst e
                rw [if_pos ⟨Nat.le_refl _, by simp⟩, Nat.sub_self, if_pos rfl, if_pos hK5]; rfl
              · rw [if_neg (by simp; omega), if_neg e]
            rw [← this]; exact u4
          · rintro (f | f)
            · exact (kq b f).2.2.2.2 hbk
            · exact (on3 b hbk).2.2.1 f
          · rw [keptN, hb, if_pos rfl]
            exact g3.keep fun b hbk => u2.keep b (g3.lt g2.wf hbk) (k4b b hbk).2.2.1
        exact order_l0 k hk w0 rs rt hsb htb hll hkl K B hK hB p L N hN n (i + 1) h5 M2 C2 o3 k4 (by omega) (by omega) I'
    · have hg : (cond (decide (Int.ofNat i < Int.ofNat l.length)) (some (decide (Int.ofNat i < (30 : Int)), h)) (some (false, h)) : Option (Bool × H)) = some (false, h) := by
        by_cases q : i < l.length
        · rw [decide_eq_true (show Int.ofNat i < Int.ofNat l.length by simp; omega), decide_eq_false (show ¬ Int.ofNat i < (30 : Int) by simp; omega)]; rfl
        · rw [decide_eq_false (show ¬ Int.ofNat i < Int.ofNat l.length by simp; omega)]; rfl
      rw [hg]
      simp only [Option.bind_some, cond_false]
      have : i = N := by omega
      subst this
      exact ⟨h, M, C, order, kept, rfl, I⟩

theorem sameVer_of {h h' : H} {b : Nat} (e : h'.get b = h.get b) : sameVer h h' b = true := by
  unfold sameVer
  rw [e]
  cases h.get b with
  | none => rfl
  | some x => exact Nat.beq_refl _
theorem order_l1 (k : Nat) (hk : 1000 < k) {h0 : H} {p L : Nat} {M C : Nat → Prop} {st : Plat} {last : List Int} (hlast : last.length = 5) (hnow : st.now = last.map allb) (order : Sl) (hM : ¬ M L) : ∀ n j h, 5 - j < n → j ≤ 5 → Ch (fun _ => False) h0 h → PlatR h p M C st → Is h L 56 5 (ivs last) →
    ∃ h', corbellaw7_PlatterOrder.l1 k n (some ⟨p, 0, none⟩) order (some ⟨L, 0, none⟩) (Int.ofNat j) h = some (.inr (), h') ∧ Ch (fun _ => False) h0 h' ∧ PlatR h' p M C st
  | 0, j, h, hn, _, _, _, _ => by omega
  | n + 1, j, h, hn, hj, hc, hp, hL => by
    rw [corbellaw7_PlatterOrder.l1_succ]
    by_cases c : j < 5
    · rw [decide_eq_true (show Int.ofNat j < (5 : Int) by simp; omega), cond_true]
      have hx : st.now[j]? = some (allb (last[j]'(by omega))) := by rw [hnow, List.getElem?_map, List.getElem?_eq_getElem (by omega)]; rfl
      obtain ⟨s1, h1, a1, a2, a3, a4, a5⟩ := read_f k hc.wf hp hx (by show (List.replicate 160 _).length ≤ _; rw [List.length_replicate]; decide)
      rw [a1]
      simp only [Option.bind_some, Bool.not_true, cond_false]
      rw [txt_ok a3.slr]
      have hL1 := hL.keep (a2.keep L (hL.lt hc.wf) fun f => f)
      rw [show ixs 1 (some ⟨L, 0, none⟩) 5 (Int.ofNat j) = some (.pointer (some ⟨L, 0 + j * 1, none⟩)) from cond_eta _ _ _ (Nat.ble_eq_true_of_le c)]
      simp only [asT, asP_ptr, Option.bind_some, hL1.ldc]
      rw [Nat.zero_add, Nat.mul_one, ivs_get, List.getElem?_eq_getElem (show j < last.length by omega)]
      simp only [Option.map_some, asI_int, Option.bind_some]
      obtain ⟨h2, b1, b2, b3, b4⟩ := all_f k hk last[j] a2.wf
      rw [b1]
      simp only [Option.bind_some]
      rw [show txt h2 (Value.slice (some ⟨h1.next, 0, none⟩) 160 160) = _ from txt_ok b4.slr]
      simp only [Option.bind_some]
      obtain ⟨b, bn, bc, e1, e2, e3⟩ := Ow.pos a3 (by
        intro e
        have := congrArg List.length e
        rw [byt_len] at this
        have q : (allb (last[j]'(by omega))).length = 160 := List.length_replicate
        rw [q] at this; cases this)
      have hdyn : dynL [(3, 8), (4, 8)] ([(3, none)] ++ [(4, blkOf (some (Value.slice s1.a s1.n s1.c)))]) [(8, h1, h2)] = true := by
        rw [e1]
        have hb : sameVer h1 h2 b = true := sameVer_of (b2.keep b (e3.lt a2.wf) fun f => f)
        simp [dynL, blkOf, hb]
      rw [hdyn, cond_true, show (!((ByteArray.mk (allb last[j]).toArray).toList == (ByteArray.mk (allb last[j]).toArray).toList)) = false by simp, cond_false, wrap_succ (by omega)]
      have c12 : Ch (fun _ => False) h h2 := a2.trans b2 fun _ _ f => f
      exact order_l1 k hk hlast hnow order hM n (j + 1) h2 (by omega) (by omega) (hc.trans c12 fun _ _ f => f) (hp.keep c12 fun _ f => f.elim) (hL.keep (c12.keep L (hL.lt hc.wf) fun f => f))
    · rw [decide_eq_false (show ¬ Int.ofNat j < (5 : Int) by simp; omega), cond_false]
      exact ⟨h, rfl, hc, hp⟩
theorem eqptr42 (p : Addr) : binO1 Try.prog .eql 42 (.pointer (some p)) (.pointer none) = some (.bool false) := by
  simp [binO1, binB, binA, Try.underlying42, eqA]
end Go.Proofs.Ytbegaeohggkblaa.Fw
