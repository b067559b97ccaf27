/- A tree's bytes read back: plain lists. No program, no condition. -/
import Derived.Test.YtfenkpghcbohdaaFwTreeB
import Derived.Test.YtfenkpghcbohdaaDenOpen
namespace Go.Proofs.Ytfenkpghcbohdaa.Fw
open Go Den Fwd
set_option linter.unusedVariables false
set_option linter.unusedSimpArgs false
def mapI (b : List UInt8) : List Int := b.map fun c => Int.ofNat c.toNat
/-! ### as the program reads: so many bytes, or all there are -/
def pNm (b : List UInt8) : List UInt8 × List UInt8 := ((b.drop 1).take (unbe (b.take 1)), (b.drop 1).drop (unbe (b.take 1)))
def pSz (b : List UInt8) : Nat := unbe ((b.drop 1).take 2)
def volOf (nm pa c : List UInt8) : Vol × List UInt8 := (⟨nm, pa, decide (unbe (c.take 1) = 1), Int.ofNat (pSz c), mapI (((c.drop 1).drop 2).take (pSz c / 8))⟩, ((c.drop 1).drop 2).drop (pSz c / 8))
def pVol (b : List UInt8) : Vol × List UInt8 := volOf (pNm b).1 (pNm (pNm b).2).1 (pNm (pNm b).2).2
def pVols : Nat → List UInt8 → List Vol
  | 0, _ => []
  | n + 1, b => (pVol b).1 :: pVols n (pVol b).2
def parseP (b : List UInt8) : List Vol := pVols (unbe (b.take 1)) (b.drop 1)
/-! ### as the reference reads: so many bytes, or none -/
def rTake (b : List UInt8) (n : Nat) : Option (List UInt8 × List UInt8) := if n ≤ b.length then some (b.take n, b.drop n) else none
def rNm (b : List UInt8) : Option (List UInt8 × List UInt8) := (rTake b 1).bind fun x => rTake x.2 (unbe x.1)
def rVol (b : List UInt8) : Option (Vol × List UInt8) :=
  (rNm b).bind fun a => (rNm a.2).bind fun c => (rTake c.2 3).bind fun d => (rTake d.2 (unbe (d.1.drop 1) / 8)).bind fun m =>
    some (⟨a.1, c.1, decide (unbe (d.1.take 1) = 1), Int.ofNat (unbe (d.1.drop 1)), mapI m.1⟩, m.2)
def rVols : Nat → List UInt8 → Option (List Vol × List UInt8)
  | 0, b => some ([], b)
  | n + 1, b => (rVol b).bind fun x => (rVols n x.2).bind fun y => some (x.1 :: y.1, y.2)
def rParse (b : List UInt8) : Option (List Vol) := (rTake b 1).bind fun x => (rVols (unbe x.1) x.2).bind fun y => some y.1
theorem rTake_some {b : List UInt8} {n : Nat} {x : List UInt8 × List UInt8} (h : rTake b n = some x) : n ≤ b.length ∧ x = (b.take n, b.drop n) := by
  unfold rTake at h
  by_cases c : n ≤ b.length
  · rw [if_pos c] at h; exact ⟨c, (Option.some.inj h).symm⟩
  · rw [if_neg c] at h; cases h
theorem rNm_some {b : List UInt8} {x : List UInt8 × List UInt8} (h : rNm b = some x) : pNm b = x := by
  unfold rNm at h
  rw [Option.bind_eq_some_iff] at h
  obtain ⟨y, h1, h2⟩ := h
  obtain ⟨_, rfl⟩ := rTake_some h1
  obtain ⟨_, rfl⟩ := rTake_some h2
  rfl
theorem take3 (b : List UInt8) : (b.take 3).take 1 = b.take 1 ∧ (b.take 3).drop 1 = (b.drop 1).take 2 := by
  refine ⟨by rw [List.take_take]; rfl, ?_⟩
  rw [List.drop_take]
theorem rVol_some {b : List UInt8} {x : Vol × List UInt8} (h : rVol b = some x) : pVol b = x := by
  unfold rVol at h
  rw [Option.bind_eq_some_iff] at h
  obtain ⟨a, h1, h⟩ := h
  rw [Option.bind_eq_some_iff] at h
  obtain ⟨c, h2, h⟩ := h
  rw [Option.bind_eq_some_iff] at h
  obtain ⟨d, h3, h⟩ := h
  rw [Option.bind_eq_some_iff] at h
  obtain ⟨m, h4, h⟩ := h
  have e1 := rNm_some h1
  have e2 := rNm_some h2
  obtain ⟨_, rfl⟩ := rTake_some h3
  obtain ⟨_, rfl⟩ := rTake_some h4
  obtain ⟨t1, t2⟩ := take3 c.2
  rw [← Option.some.inj h]
  unfold pVol
  rw [e1, e2]
  unfold volOf pSz
  dsimp only
  rw [t1, t2]
  simp only [List.drop_drop]
theorem rVols_some : ∀ (n : Nat) {b : List UInt8} {x : List Vol × List UInt8}, rVols n b = some x → pVols n b = x.1
  | 0, b, x, h => by
    have h : some (([] : List Vol), b) = some x := h
    rw [← Option.some.inj h]; rfl
  | n + 1, b, x, h => by
    have h : ((rVol b).bind fun x => (rVols n x.2).bind fun y => some (x.1 :: y.1, y.2)) = some x := h
    rw [Option.bind_eq_some_iff] at h
    obtain ⟨v, h1, h⟩ := h
    rw [Option.bind_eq_some_iff] at h
    obtain ⟨y, h2, h⟩ := h
    rw [← Option.some.inj h]
    show (pVol b).1 :: pVols n (pVol b).2 = _
    rw [rVol_some h1, rVols_some n h2]
theorem rParse_some {b : List UInt8} {t : List Vol} (h : rParse b = some t) : parseP b = t := by
  unfold rParse at h
  rw [Option.bind_eq_some_iff] at h
  obtain ⟨x, h1, h⟩ := h
  rw [Option.bind_eq_some_iff] at h
  obtain ⟨y, h2, h⟩ := h
  obtain ⟨_, rfl⟩ := rTake_some h1
  rw [← Option.some.inj h]
  exact rVols_some _ h2
/-! ### what is laid is read -/
theorem rTake_app (x y : List UInt8) {n : Nat} (h : x.length = n) : rTake (x ++ y) n = some (x, y) := by
  subst h
  unfold rTake
  rw [if_pos (by rw [List.length_append]; omega), List.take_left, List.drop_left]
theorem rNm_app (x y : List UInt8) (h : x.length < 256) : rNm (beN x.length 1 ++ x ++ y) = some (x, y) := by
  unfold rNm
  rw [List.append_assoc, rTake_app _ _ (beN_len _ _)]
  simp only [Option.bind_some]
  rw [unbe_be (by rw [Nat.pow_one]; exact h)]
  exact rTake_app _ _ rfl
theorem u8_ok {n : Int} (h : okN n = true) : Int.ofNat (u8 n).toNat = n := by
  unfold okN at h
  rw [Bool.or_eq_true, Bool.and_eq_true, decide_eq_true_eq, decide_eq_true_eq, decide_eq_true_eq] at h
  unfold u8
  rw [UInt8.toNat_ofNat']
  have e : n % 256 = n := Int.emod_eq_of_lt (by omega) (by omega)
  rw [e, Nat.mod_eq_of_lt (by omega)]
  exact Int.toNat_of_nonneg (by omega)
theorem mapI_mapB {m : List Int} (h : m.all okN = true) : mapI (mapB m) = m := by
  unfold mapI mapB
  rw [List.map_map]
  have : ∀ x ∈ m, ((fun c : UInt8 => Int.ofNat c.toNat) ∘ u8) x = id x := fun x hx => u8_ok (List.all_eq_true.1 h x hx)
  rw [List.map_congr_left this, List.map_id]
structure VolG (v : Vol) : Prop where
  b : VolB v
  ma : v.mp.all okN = true
  ml : (v.mp.length : Int) = v.sz / 8
theorem RightP.vg {t : List Vol} (R : RightP t) {v : Vol} (hv : v ∈ t) : VolG v := by
  refine ⟨R.vb hv, ?_, (mapLen (R.ma v hv)).2.1⟩
  have := R.ma v hv
  unfold rightMap at this
  rw [Bool.and_eq_true, Bool.and_eq_true] at this
  exact this.2.2
theorem rVol_app {v : Vol} (G : VolG v) (y : List UInt8) : rVol (layV v ++ y) = some (v, y) := by
  have B := G.b
  have sz := B.sz
  unfold rVol layV
  have e : beN v.nm.length 1 ++ v.nm ++ beN v.pa.length 1 ++ v.pa ++ beN (if v.sn then 1 else 0) 1 ++ beN v.sz.toNat 2 ++ mapB v.mp ++ y = beN v.nm.length 1 ++ v.nm ++ (beN v.pa.length 1 ++ v.pa ++ ((beN (if v.sn then 1 else 0) 1 ++ beN v.sz.toNat 2) ++ (mapB v.mp ++ y))) := by simp only [List.append_assoc]
  rw [e, rNm_app _ _ (by have := B.nm; omega)]
  simp only [Option.bind_some]
  rw [rNm_app _ _ (by have := B.pa; omega)]
  simp only [Option.bind_some]
  rw [rTake_app (beN (if v.sn then 1 else 0) 1 ++ beN v.sz.toNat 2) _ (by rw [List.length_append, beN_len, beN_len])]
  simp only [Option.bind_some]
  have l1 : (beN (if v.sn then 1 else 0) 1).length = 1 := beN_len _ _
  have d1 : (beN (if v.sn then 1 else 0) 1 ++ beN v.sz.toNat 2).drop 1 = beN v.sz.toNat 2 := by
    have := List.drop_left (l₁ := beN (if v.sn then 1 else 0) 1) (l₂ := beN v.sz.toNat 2)
    rw [l1] at this; exact this
  have d2 : (beN (if v.sn then 1 else 0) 1 ++ beN v.sz.toNat 2).take 1 = beN (if v.sn then 1 else 0) 1 := by
    have := List.take_left (l₁ := beN (if v.sn then 1 else 0) 1) (l₂ := beN v.sz.toNat 2)
    rw [l1] at this; exact this
  rw [d1, d2, unbe_be (n := v.sz.toNat) (s := 2) (by omega), unbe_be (s := 1) (by cases v.sn <;> decide)]
  have ml := G.ml
  rw [rTake_app (mapB v.mp) y (by unfold mapB; rw [List.length_map]; omega)]
  simp only [Option.bind_some]
  rw [mapI_mapB G.ma]
  have e2 : Int.ofNat v.sz.toNat = v.sz := Int.toNat_of_nonneg sz.1
  have e3 : decide ((if v.sn then 1 else 0) = 1) = v.sn := by cases v.sn <;> rfl
  rw [e2, e3]
theorem rVols_app : ∀ {t : List Vol}, (∀ v ∈ t, VolG v) → ∀ y, rVols t.length ((t.map layV).flatten ++ y) = some (t, y)
  | [], _, y => rfl
  | v :: t, h, y => by
    have ih := rVols_app (fun x hx => h x (List.mem_cons_of_mem _ hx)) y
    rw [List.map_cons, List.flatten_cons, List.append_assoc]
    show ((rVol (layV v ++ ((t.map layV).flatten ++ y))).bind fun x => (rVols t.length x.2).bind fun y => some (x.1 :: y.1, y.2)) = _
    rw [rVol_app (h v List.mem_cons_self)]
    simp only [Option.bind_some]
    rw [ih]; rfl
theorem rParse_lay {t : List Vol} (R : RightP t) : rParse (layP t) = some t := by
  unfold rParse layP
  have := R.le
  rw [rTake_app _ _ (beN_len _ _)]
  simp only [Option.bind_some]
  rw [unbe_be (by rw [Nat.pow_one]; omega)]
  have := rVols_app (fun v hv => R.vg hv) []
  rw [List.append_nil] at this
  rw [this]; rfl
theorem parse_lay {t : List Vol} (R : RightP t) : parseP (layP t) = t := rParse_some (rParse_lay R)
theorem lay_inj {s t : List Vol} (R : RightP s) (S : RightP t) : layP s = layP t ↔ s = t := ⟨fun h => by rw [← parse_lay R, h, parse_lay S], fun h => by rw [h]⟩
def OkP (b : List UInt8) : Prop := RightP (parseP b) ∧ layP (parseP b) = b
noncomputable instance (b : List UInt8) : Decidable (OkP b) := Classical.propDecidable _
theorem OkP.lay {t : List Vol} (R : RightP t) : OkP (layP t) := by
  unfold OkP
  rw [parse_lay R]
  exact ⟨R, rfl⟩
/-- what is behind, or lacks, makes it none -/
theorem lay_more {t s : List Vol} (R : RightP t) (S : RightP s) {y : List UInt8} (hy : y ≠ []) : layP t ≠ layP s ++ y := by
  intro e
  unfold layP at e
  have lt := R.le
  have ls := S.le
  rw [List.append_assoc] at e
  obtain ⟨e1, e2⟩ := List.append_inj e (by rw [beN_len, beN_len])
  have e3 : t.length = s.length := be_inj (s := 1) (by rw [Nat.pow_one]; omega) (by rw [Nat.pow_one]; omega) e1
  have f1 := rVols_app (fun v hv => R.vg hv) []
  have f2 := rVols_app (fun v hv => S.vg hv) y
  rw [List.append_nil, e2, e3, f2] at f1
  have := congrArg Prod.snd (Option.some.inj f1)
  exact hy this
theorem lay_short {t : List Vol} (R : RightP t) : ¬ OkP ((layP t).take ((layP t).length - 1)) := by
  rintro ⟨S, e⟩
  have hl : 0 < (layP t).length := by unfold layP; rw [List.length_append, beN_len]; omega
  have : layP t = layP (parseP ((layP t).take ((layP t).length - 1))) ++ (layP t).drop ((layP t).length - 1) := by
    rw [e, List.take_append_drop]
  refine lay_more R S (fun f => ?_) this
  have := congrArg List.length f
  rw [List.length_drop] at this
  have this : (layP t).length - ((layP t).length - 1) = 0 := this
  omega
theorem lay_long {t : List Vol} (R : RightP t) (c : UInt8) : ¬ OkP (layP t ++ [c]) := by
  rintro ⟨S, e⟩
  exact lay_more S R (y := [c]) (by simp) e
/-! ### bounds of what is read -/
structure VolW (v : Vol) : Prop where
  nm : v.nm.length ≤ 255
  pa : v.pa.length ≤ 255
  mp : v.mp.length ≤ 8191
theorem unbe1_le (b : List UInt8) : unbe (b.take 1) ≤ 255 := by
  have h1 := unbe_bound (b.take 1)
  have h2 : 256 ^ (b.take 1).length ≤ 256 ^ 1 := Nat.pow_le_pow_right (by decide) (by rw [List.length_take]; omega)
  rw [Nat.pow_one] at h2
  omega
theorem unbe2_le (b : List UInt8) : unbe (b.take 2) ≤ 65535 := by
  have h1 := unbe_bound (b.take 2)
  have h2 : 256 ^ (b.take 2).length ≤ 256 ^ 2 := Nat.pow_le_pow_right (by decide) (by rw [List.length_take]; omega)
  have h3 : 256 ^ 2 = 65536 := rfl
  omega
theorem pVol_w (b : List UInt8) : VolW (pVol b).1 := by
  unfold pVol volOf pNm
  dsimp only
  refine ⟨?_, ?_, ?_⟩
  · have := unbe1_le b
    rw [List.length_take]; omega
  · rw [List.length_take]
    have := unbe1_le ((b.drop 1).drop (unbe (b.take 1)))
    omega
  · unfold mapI
    rw [List.length_map, List.length_take]
    have : ∀ c, pSz c ≤ 65535 := fun c => unbe2_le _
    have := this ((((b.drop 1).drop (unbe (b.take 1))).drop 1).drop (unbe (((b.drop 1).drop (unbe (b.take 1))).take 1)))
    omega
theorem mtake_f (k : Nat) {h : H} (w : WF h) {rb e : Nat} {s : Sl} {x : List UInt8} (I : Is h rb e 1 [slv s]) (r : SlR 1 h s (byt x)) (hs : ¬ SlB s rb) (n : Nat) :
    ∃ s1 s' h', meta_reader_take.f k (some ⟨rb, 0, none⟩) (Int.ofNat n) h = some (s1, h') ∧ Ch (fun b => b = rb) h h' ∧ Is h' rb e 1 [slv s'] ∧ SlR 1 h' s1 (byt (x.take n)) ∧ SlR 1 h' s' (byt (x.drop n)) ∧ (∀ b, SlB s1 b → SlB s b) ∧ (∀ b, SlB s' b → SlB s b) := by
  unfold meta_reader_take.f
  simp only [nilA, asP_ptr, Option.bind_some, fadd, I.ldc, List.getElem?_cons_zero, Nat.add_zero, asS_slv]
  have em : (cond (decide (Int.ofNat s.n < Int.ofNat n)) (Int.ofNat s.n) (Int.ofNat n)) = Int.ofNat (min n x.length) := by
    rw [r.n_byt]
    by_cases c : x.length < n
    · rw [decide_eq_true (show Int.ofNat x.length < Int.ofNat n by simp; omega), cond_true, Nat.min_eq_right (by omega)]
    · rw [decide_eq_false (show ¬ Int.ofNat x.length < Int.ofNat n by simp; omega), cond_false, Nat.min_eq_left (by omega)]
  rw [em]
  obtain ⟨s1, a1, a2, a3, a4⟩ := subb_ok r (lo := 0) (hi := min n x.length) (Nat.zero_le _) (Nat.min_le_right _ _) (xlo := none) (xhi := some (Int.ofNat (min n x.length))) rfl rfl
  rw [a1]
  simp only [asS_slv, Option.bind_some]
  rw [List.drop_zero, Nat.sub_zero] at a3
  obtain ⟨s2, c1, c2, c3, c4⟩ := subb_ok r (lo := min n x.length) (hi := x.length) (Nat.min_le_right _ _) (Nat.le_refl _) (xlo := some (Int.ofNat (min n x.length))) (xhi := none) rfl (by rw [r.n_byt]; rfl)
  rw [c1]
  simp only [asS_slv, Option.bind_some]
  obtain ⟨h2, d1, d2, d3, d4⟩ := I.set w 0 (slv s2) (by show 0 < 1; decide) rfl
  rw [show [Value.slice s2.a s2.n s2.c] = [slv s2] from rfl, d1]
  simp only [Option.bind_some]
  have ht : x.take (min n x.length) = x.take n := by
    by_cases c : n ≤ x.length
    · rw [Nat.min_eq_left c]
    · rw [Nat.min_eq_right (by omega), List.take_of_length_le (Nat.le_refl _), List.take_of_length_le (by omega)]
  have hd : (x.drop (min n x.length)).take (x.length - min n x.length) = x.drop n := by
    rw [List.take_of_length_le (by rw [List.length_drop]; exact Nat.le_refl _)]
    by_cases c : n ≤ x.length
    · rw [Nat.min_eq_left c]
    · rw [Nat.min_eq_right (by omega), List.drop_eq_nil_of_le (Nat.le_refl _), List.drop_eq_nil_of_le (by omega)]
  rw [ht] at a3
  rw [hd] at c3
  exact ⟨s1, s2, h2, rfl, d2, d4, a3.keep fun b hb => d2.keep b (a3.blk w hb) fun f => hs (by subst f; exact a4 _ hb), c3.keep fun b hb => d2.keep b (c3.blk w hb) fun f => hs (by subst f; exact c4 _ hb), a4, c4⟩
/-! ### the map -/
theorem vmap_l0 (k : Nat) {h0 : H} (w0 : WF h0) {x12 : Option Addr} {s : Sl} {x : List UInt8} {vb : Nat} (hx : x.length ≤ 10000) {v0 v1 v2 v3 : Value} (r0 : SlR 1 h0 s (byt x)) (ns : ¬ SlB s vb) (hv : vb < h0.next) : ∀ n i h m, x.length - i < n → i ≤ x.length → Ch (fun b => b = vb) h0 h → Is h vb 58 5 [v0, v1, v2, v3, slv m] → Ow 3 1 h m (ivs (mapI (x.take i))) → (∀ b, SlB m b → h0.next ≤ b) →
    ∃ m' h', meta_reader_volume.l0 k n x12 (some ⟨vb, 0, none⟩) s (Int.ofNat x.length) (Int.ofNat i) h = some ((), h') ∧ Ch (fun b => b = vb) h0 h' ∧ Is h' vb 58 5 [v0, v1, v2, v3, slv m'] ∧ Ow 3 1 h' m' (ivs (mapI x)) ∧ ∀ b, SlB m' b → h0.next ≤ b
  | 0, i, h, m, hf, _, _, _, _, _ => by omega
  | n + 1, i, h, m, hf, hi, C, I, O, F => by
    have r : SlR 1 h s (byt x) := r0.keep fun b hb => C.keep b (r0.blk w0 hb) fun f => ns (by subst f; exact hb)
    rw [meta_reader_volume.l0_succ]
    by_cases c : i < x.length
    · rw [decLt c, cond_true]
      obtain ⟨p, e1, e2⟩ := r.byte (List.getElem?_eq_getElem c)
      rw [e1]
      simp only [asP_ptr, Option.bind_some, e2, asI_int, fadd]
      have L4 : asS (ldc h (some ⟨vb, 0 + 4, none⟩)) = some m := by rw [I.ldc]; exact asS_slv _
      rw [L4]
      simp only [Option.bind_some]
      have hc : (x[i]).toNat < 256 := UInt8.toNat_lt _
      rw [wrap_in (n := Int.ofNat (x[i]).toNat) (by simp only [Int.ofNat_eq_natCast]; omega) (by simp only [Int.ofNat_eq_natCast]; omega)]
      obtain ⟨m1, h1, a1, a2, a3, a4⟩ := push_i C.wf O (Int.ofNat (x[i]).toNat) (by unfold mapI; rw [List.length_map, List.length_take]; omega)
      rw [a1]
      simp only [Option.bind_some]
      have nm : ¬ SlB m vb := fun f => by have := F _ f; omega
      have I1 := I.keep (a2.keep vb (I.lt C.wf) nm)
      obtain ⟨h2, b1, b2, b3, b4⟩ := I1.set a2.wf 4 (slv m1) (by show 4 < 5; decide) rfl
      rw [show [Value.slice m1.a m1.n m1.c] = [slv m1] from rfl, show (0 + 4 : Nat) = 4 from rfl, b1]
      simp only [Option.bind_some]
      rw [wrap_succ (by omega)]
      have F1 : ∀ b, SlB m1 b → h0.next ≤ b := fun b hb => (a4 b hb).elim (F b) fun f => Nat.le_trans C.le f
      have C2 : Ch (fun b => b = vb) h0 h2 := (C.trans a2 fun z hz f => by have := F z f; omega).trans b2 fun _ _ f => f
      refine vmap_l0 k w0 hx r0 ns hv n (i + 1) h2 m1 (by omega) (by omega) C2 b4 ?_ F1
      have ht : x.take (i + 1) = x.take i ++ [x[i]] := by simp
      rw [ht]
      unfold mapI at a3 ⊢
      rw [List.map_append]
      exact a3.keep fun b hb => b2.keep b (a3.lt a2.wf hb) fun f => by have := F1 b hb; omega
    · rw [decNlt c, cond_false]
      rw [List.take_of_length_le (by omega)] at O
      exact ⟨m, h, rfl, C, I, O, F⟩
/-! ### a volume -/
theorem ch_slr {h h' : H} {rb : Nat} (w : WF h) {s : Sl} {x : List UInt8} (r : SlR 1 h s (byt x)) (c : Ch (fun b => b = rb) h h') (n : ¬ SlB s rb) : SlR 1 h' s (byt x) := r.keep fun b hb => c.keep b (r.blk w hb) fun f => n (by subst f; exact hb)
theorem ch_same {h h' : H} {rb : Nat} (w : WF h) {s : Sl} {x : List UInt8} (r : SlR 1 h s (byt x)) (c : Ch (fun b => b = rb) h h') (n : ¬ SlB s rb) : same1 h h' (some (Value.slice s.a s.n s.c)) = true := same1_sl fun b hb => c.keep b (r.blk w hb) fun f => n (by subst f; exact hb)
def zVo : List Value := [Value.string (⟨#[]⟩ : ByteArray), Value.string (⟨#[]⟩ : ByteArray), Value.bool false, Value.int .i64 (0 : Int), Value.slice none 0 0]
theorem volume_f (k : Nat) (hk : 20000 < k) {h : H} (w : WF h) {rb e : Nat} {s : Sl} {x : List UInt8} (I : Is h rb e 1 [slv s]) (r : SlR 1 h s (byt x)) (hs : ¬ SlB s rb) :
    ∃ q s' h', meta_reader_volume.f k (some ⟨rb, 0, none⟩) h = some (voT q, h') ∧ Ch (fun b => b = rb) h h' ∧ Is h' rb e 1 [slv s'] ∧ SlR 1 h' s' (byt (pVol x).2) ∧ (∀ b, SlB s' b → SlB s b) ∧ q.1 = (pVol x).1 ∧ Ow 3 1 h' q.2 (ivs q.1.mp) ∧ ∀ b, SlB q.2 b → h.next ≤ b := by
  unfold meta_reader_volume.f
  rw [show [Value.string (⟨#[]⟩ : ByteArray), Value.string (⟨#[]⟩ : ByteArray), Value.bool false, Value.int .i64 (0 : Int), Value.slice none 0 0] = zVo from rfl]
  have rl := I.lt w
  obtain ⟨z1, z2, z3⟩ := newR_ok w 58 5 zVo
  generalize newR h 58 5 zVo = g0 at z1 z2 z3 ⊢
  have I0 := I.stay w z1
  have r0 := r.stay w z1
  obtain ⟨s1, g1, a1, a2, a3, a4, a5⟩ := mnumber_f k (by omega) z1.wf I0 r0 hs 1 (by decide) 1 rfl
  rw [a1]
  simp only [Option.bind_some]
  obtain ⟨t2, s2, g2, b1, b2, b3, b4, b5, b6, b7⟩ := mtake_f k a2.wf a3 a4 (fun f => hs (a5 _ f)) (unbe (x.take 1))
  rw [b1]
  simp only [Option.bind_some]
  rw [txt_sl b4]
  simp only [Option.bind_some]
  have n2 : ∀ b, SlB s2 b → SlB s b := fun b f => a5 b (b7 b f)
  have nt2 : ¬ SlB t2 rb := fun f => hs (a5 _ (b6 _ f))
  have e1 : (pNm x).1 = (x.drop 1).take (unbe (x.take 1)) := rfl
  have e2 : (pNm x).2 = (x.drop 1).drop (unbe (x.take 1)) := rfl
  rw [← e1] at b4
  rw [← e2] at b5
  rw [← e1]
  obtain ⟨s3, g3, c1, c2, c3, c4, c5⟩ := mnumber_f k (by omega) b2.wf b3 b5 (fun f => hs (n2 _ f)) 1 (by decide) 1 rfl
  rw [c1]
  simp only [Option.bind_some]
  obtain ⟨t4, s4, g4, d1, d2, d3, d4, d5, d6, d7⟩ := mtake_f k c2.wf c3 c4 (fun f => hs (n2 _ (c5 _ f))) (unbe ((pNm x).2.take 1))
  rw [d1]
  simp only [Option.bind_some]
  rw [txt_sl d4]
  simp only [Option.bind_some]
  have n4 : ∀ b, SlB s4 b → SlB s b := fun b f => n2 b (c5 b (d7 b f))
  have nt4 : ¬ SlB t4 rb := fun f => hs (n2 _ (c5 _ (d6 _ f)))
  have e3 : (pNm (pNm x).2).1 = ((pNm x).2.drop 1).take (unbe ((pNm x).2.take 1)) := rfl
  have e4 : (pNm (pNm x).2).2 = ((pNm x).2.drop 1).drop (unbe ((pNm x).2.take 1)) := rfl
  rw [← e3] at d4
  rw [← e4] at d5
  rw [← e3]
  obtain ⟨s5, g5, f1, f2, f3, f4, f5⟩ := mnumber_f k (by omega) d2.wf d3 d5 (fun f => hs (n4 _ f)) 1 (by decide) 1 rfl
  rw [f1]
  simp only [Option.bind_some]
  obtain ⟨s6, g6, m1, m2, m3, m4, m5⟩ := mnumber_f k (by omega) f2.wf f3 f4 (fun f => hs (n4 _ (f5 _ f))) 2 (by decide) 2 rfl
  rw [m1]
  simp only [Option.bind_some]
  -- the texts that were made stand still
  have q2c2 := ch_same b2.wf b4 c2 nt2
  have T2c := ch_slr b2.wf b4 c2 nt2
  have q2d2 := ch_same c2.wf T2c d2 nt2
  have T2d := ch_slr c2.wf T2c d2 nt2
  have q2f2 := ch_same d2.wf T2d f2 nt2
  have T2f := ch_slr d2.wf T2d f2 nt2
  have q2m2 := ch_same f2.wf T2f m2 nt2
  have q4f2 := ch_same d2.wf d4 f2 nt4
  have T4f := ch_slr d2.wf d4 f2 nt4
  have q4m2 := ch_same f2.wf T4f m2 nt4
  generalize hc : (pNm (pNm x).2).2 = c at d5 f1 f4 m1 m4 ⊢
  have C6 : Ch (fun b => b = rb) g0 g6 := ((((a2.trans b2 fun _ _ f => f).trans c2 fun _ _ f => f).trans d2 fun _ _ f => f).trans f2 fun _ _ f => f).trans m2 fun _ _ f => f
  have hsz : unbe ((c.drop 1).take 2) = pSz c := rfl
  rw [hsz] at m1 ⊢
  have szb : pSz c ≤ 65535 := unbe2_le _
  have es : (Int.ofNat (unbe (c.take 1)) == (1 : Int)) = decide (unbe (c.take 1) = 1) := by
    by_cases z : unbe (c.take 1) = 1
    · rw [z]; rfl
    · rw [decide_eq_false z, beq_eq_false_iff_ne]
      intro f; exact z (Int.ofNat.inj f)
  rw [es]
  let v0 : Vs := (⟨(pNm x).1, (pNm (pNm x).2).1, decide (unbe (c.take 1) = 1), Int.ofNat (pSz c), []⟩, ⟨none, 0, 0⟩)
  have ev0 : [Value.string (⟨(pNm x).1.toArray⟩ : ByteArray), Value.string (⟨(pNm (pNm x).2).1.toArray⟩ : ByteArray), Value.bool (decide (unbe (c.take 1) = 1)), Value.int .i64 (Int.ofNat (pSz c)), Value.slice none 0 0] = voL v0 := rfl
  rw [ev0]
  obtain ⟨g7, u1, u2, u3, u4⟩ := box_ok m2.wf 58 5 zVo (voL v0) rfl rfl rfl
  rw [u1]
  simp only [Option.bind_some, q2c2, q2d2, q2f2, q2m2, q4f2, q4m2, Bool.and_self, cond_true]
  rw [show asI .i64 (ldc g7 (some ⟨g6.next, 3, none⟩)) = some (Int.ofNat (pSz c)) by rw [u4.ldc]; exact asI_int _ _]
  simp only [Option.bind_some]
  have et : wrapA .i64 ((Int.ofNat (pSz c)).tdiv 8) = Int.ofNat (pSz c / 8) := by
    rw [Int.tdiv_eq_ediv_of_nonneg (show (0 : Int) ≤ Int.ofNat (pSz c) from Int.natCast_nonneg _)]
    have : (Int.ofNat (pSz c)) / 8 = Int.ofNat (pSz c / 8) := by simp only [Int.ofNat_eq_natCast]; omega
    rw [this, wrap_in (n := Int.ofNat (pSz c / 8)) (by simp only [Int.ofNat_eq_natCast]; omega) (by simp only [Int.ofNat_eq_natCast]; omega)]
  rw [et]
  have I7 := m3.stay m2.wf u2
  obtain ⟨t8, s8, g8, p1, p2, p3, p4, p5, p6, p7⟩ := mtake_f k u2.wf I7 (m4.stay m2.wf u2) (fun f => hs (n4 _ (f5 _ (m5 _ f)))) (pSz c / 8)
  rw [p1]
  simp only [Option.bind_some]
  have n6 : ∀ b, SlB s6 b → SlB s b := fun b f => n4 b (f5 b (m5 b f))
  have sl : ∀ b, SlB s b → b < h.next := fun b hb => r.blk w hb
  have lt06 : g0.next ≤ g6.next := C6.le
  have I8 : Is g8 g6.next 58 5 (voL v0) := u4.keep (p2.keep g6.next (by omega) (by omega))
  have ml : (((c.drop 1).drop 2).take (pSz c / 8)).length ≤ 10000 := by rw [List.length_take]; omega
  obtain ⟨mm, g9, y1, y2, y3, y4, y5⟩ := vmap_l0 k p2.wf (x12 := some ⟨h.next, 0, none⟩) (s := t8) (vb := g6.next) ml p4 (fun f => by have := sl _ (n6 _ (p6 _ f)); omega) (by have := p2.le; omega) k 0 g8 ⟨none, 0, 0⟩ (by omega) (Nat.zero_le _) (Ch.refl p2.wf) I8 Ow.nil (fun b f => absurd f noSlB)
  rw [p4.n_byt, show (0 : Int) = Int.ofNat 0 from rfl, y1]
  simp only [Option.bind_some]
  let v : Vs := ((volOf (pNm x).1 (pNm (pNm x).2).1 c).1, mm)
  have y3 : Is g9 g6.next 58 5 (voL v) := y3
  rw [ldaIs (n := 5) y3 rfl, bindVo]
  dsimp only [voT]
  rw [show [Value.string (ba v.1.nm), Value.string (ba v.1.pa), Value.bool v.1.sn, Value.int .i64 v.1.sz, Value.slice v.2.a v.2.n v.2.c] = voL v from rfl]
  have lh : h.next < g0.next := by omega
  have Z9 : Is g9 h.next 58 5 zVo := ((((z3.keep (C6.keep h.next lh (by omega))).stay m2.wf u2).keep (p2.keep h.next (by have := u2.le; omega) (by omega))).keep (y2.keep h.next (by have := u2.le; have := p2.le; omega) (by omega)))
  obtain ⟨g10, x1, x2, x3, x4⟩ := Is.whole y2.wf Z9 rfl (voL v) rfl rfl
  rw [x1]
  simp only [Option.bind_some]
  rw [ldaIs (n := 5) x4 rfl, bindVo]
  refine ⟨v, s8, g10, rfl, ?_, ?_, ?_, fun b f => n6 b (p7 b f), by unfold pVol; rw [hc], ?_, fun b hb => by have := y5 b hb; have := u2.le; have := p2.le; omega⟩
  · have D : Ch (fun b => b = rb) h g8 := ((z1.mono fun _ _ f => f.elim).trans C6 fun _ _ f => f).trans ((u2.mono fun _ _ f => f.elim).trans p2 fun _ _ f => f) fun _ _ f => f
    exact (D.trans y2 fun z hz f => by omega).trans x2 fun z hz f => by omega
  · exact (p3.keep (y2.keep rb (by have := u2.le; have := p2.le; omega) (by omega))).keep (x2.keep rb (by have := u2.le; have := p2.le; have := y2.le; omega) (by omega))
  · have er : (pVol x).2 = ((c.drop 1).drop 2).drop (pSz c / 8) := by unfold pVol; rw [hc]; rfl
    rw [er]
    refine p5.keep fun b hb => ?_
    have := sl _ (n6 _ (p7 _ hb))
    rw [x2.keep b (by have := u2.le; have := p2.le; have := y2.le; omega) (by omega)]
    exact y2.keep b (by have := u2.le; have := p2.le; omega) (by omega)
  · exact y4.keep fun b hb => x2.keep b (y4.lt y2.wf hb) fun f => by have := y5 b hb; have := u2.le; have := p2.le; omega
theorem TreeO.keep {h h' : H} {s : Sl} {vs : List Vs} (k : ∀ x, (SlB s x ∨ ∃ q ∈ vs, SlB q.2 x) → h'.get x = h.get x) (T : TreeO h s vs) : TreeO h' s vs :=
  ⟨T.ow.keep fun b hb => k b (.inl hb), fun q hq => (T.mp q hq).keep fun b hb => k b (.inr ⟨q, hq, hb⟩), T.di, T.ne⟩
theorem Fresh.all {n : Nat} {s : Sl} {vs : List Vs} (F : Fresh n s vs) {x : Nat} (h : SlB s x ∨ ∃ q ∈ vs, SlB q.2 x) : n ≤ x := h.elim (F.1 x) fun ⟨q, hq, hx⟩ => F.2 q hq x hx
theorem TreeO.lt {h : H} (w : WF h) {s : Sl} {vs : List Vs} (T : TreeO h s vs) {x : Nat} (hx : SlB s x ∨ ∃ q ∈ vs, SlB q.2 x) : x < h.next := hx.elim (T.ow.lt w) fun ⟨q, hq, f⟩ => (T.mp q hq).lt w f
theorem pVols_len : ∀ (n : Nat) (b : List UInt8), (pVols n b).length = n
  | 0, b => rfl
  | n + 1, b => by
    show ((pVol b).1 :: pVols n (pVol b).2).length = _
    rw [List.length_cons, pVols_len n]
theorem pVols_w : ∀ (n : Nat) (b : List UInt8), ∀ v ∈ pVols n b, VolW v
  | 0, b, v, hv => by cases hv
  | n + 1, b, v, hv => by
    rcases List.mem_cons.1 (show v ∈ (pVol b).1 :: pVols n (pVol b).2 from hv) with e | e
    · rw [e]; exact pVol_w b
    · exact pVols_w n _ v e
theorem treeB_of {vs : List Vs} {n : Nat} {b : List UInt8} (e : vols vs = pVols n b) (hn : n ≤ 255) : TreeB vs := by
  have l := congrArg List.length e
  rw [vols_len, pVols_len] at l
  refine ⟨by omega, fun q hq => ?_⟩
  have hm : q.1 ∈ vols vs := List.mem_map.2 ⟨q, hq, rfl⟩
  rw [e] at hm
  have V := pVols_w n b _ hm
  exact ⟨by have := V.nm; omega, by have := V.pa; omega, by have := V.mp; omega⟩
theorem read_l0 (k : Nat) (hk : 20000 < k) {h0 : H} {rb : Nat} (hr : rb < h0.next) (N : Nat) (hN : N ≤ 255) (b0 : List UInt8) (s0 : Sl) : ∀ n j h t us s b, N - j < n → j ≤ N → Ch (fun z => z = rb) h0 h → Is h rb 105 1 [slv s] → SlR 1 h s (byt b) → (∀ z, SlB s z → z < rb) → TreeO h t us → Fresh h0.next t us → us.length = j → vols us ++ pVols (N - j) b = pVols N b0 →
    ∃ t' h' us', meta_Read.l0 k n s0 (some ⟨rb, 0, none⟩) (Int.ofNat N) t (Int.ofNat j) h = some (t', h') ∧ Ch (fun z => z = rb) h0 h' ∧ TreeO h' t' us' ∧ Fresh h0.next t' us' ∧ vols us' = pVols N b0
  | 0, j, h, t, us, s, b, hf, _, _, _, _, _, _, _, _, _ => by omega
  | n + 1, j, h, t, us, s, b, hf, hj, C, I, r, hs, O, F, ul, e => by
    rw [meta_Read.l0_succ]
    by_cases c : j < N
    · rw [decLt c, cond_true]
      obtain ⟨q, s', h1, a1, a2, a3, a4, a5, a6, a7, a8⟩ := volume_f k hk C.wf I r (fun f => by have := hs _ f; omega)
      rw [a1]
      simp only [Option.bind_some]
      dsimp only [voT]
      rw [show [Value.string (ba q.1.nm), Value.string (ba q.1.pa), Value.bool q.1.sn, Value.int .i64 q.1.sz, Value.slice q.2.a q.2.n q.2.c] = voL q from rfl]
      have O1 : TreeO h1 t us := O.keep fun x hx => a2.keep x (O.lt C.wf hx) fun f => by have := F.all hx; omega
      obtain ⟨t1, h2, g1, g2, g3, g4⟩ := push_vo a2.wf O1.ow q (by omega)
      rw [g1]
      simp only [Option.bind_some]
      rw [wrap_succ (by omega)]
      have O2 := TreeO.push a2.wf O1 g2 q a7 (fun x hx f => by have := a8 x f; have := O.lt C.wf (.inl hx); omega) (fun a ha x hx f => by have := a8 x f; have := O.lt C.wf (.inr ⟨a, ha, hx⟩); omega) g3 g4
      have C1 := C.trans a2 fun _ _ f => f
      have C2 : Ch (fun z => z = rb) h0 h2 := C1.trans g2 fun z hz f => by have := F.1 z f; omega
      have F2 : Fresh h0.next t1 (us ++ [q]) := by
        refine ⟨fun x hx => (g4 x hx).elim (F.1 x) fun f => Nat.le_trans C1.le f, fun a ha x hx => ?_⟩
        rcases List.mem_append.1 ha with z | z
        · exact F.2 a z x hx
        · rw [List.mem_singleton.1 z] at hx
          have := a8 x hx
          exact Nat.le_trans C.le this
      have rl : rb < h1.next := by have := C1.le; omega
      have nt : ¬ SlB t rb := fun f => by have := F.1 _ f; omega
      refine read_l0 k hk hr N hN b0 s0 n (j + 1) h2 t1 (us ++ [q]) s' (pVol b).2 (by omega) (by omega) C2 (a3.keep (g2.keep rb rl nt)) ?_ (fun z hz => hs z (a5 z hz)) O2 F2 (by rw [List.length_append, List.length_singleton]; omega) ?_
      · exact a4.keep fun z hz => g2.keep z (by have := hs z (a5 z hz); omega) fun f => by have := F.1 z f; have := hs z (a5 z hz); omega
      · rw [← e, show N - j = (N - (j + 1)) + 1 by omega]
        show vols (us ++ [q]) ++ pVols (N - (j + 1)) (pVol b).2 = vols us ++ ((pVol b).1 :: pVols (N - (j + 1)) (pVol b).2)
        unfold vols
        rw [List.map_append, List.append_assoc, List.map_cons, a6]; rfl
    · rw [decNlt c, cond_false]
      have : j = N := by omega
      subst this
      rw [Nat.sub_self] at e
      have e : vols us ++ [] = pVols j b0 := e
      rw [List.append_nil] at e
      exact ⟨t, h, us, rfl, C, O, F, e⟩
theorem read_f (k : Nat) (hk : 1000000 < k) {h : H} (w : WF h) {s : Sl} {x : List UInt8} (r : SlR 1 h s (byt x)) :
    ∃ t h' us, meta_Read.f k s h = some ((t, if OkP x then 0 else 2), h') ∧ Ch0 h h' ∧ TreeR h' t us ∧ vols us = if OkP x then parseP x else [] := by
  unfold meta_Read.f
  rw [show [Value.slice s.a s.n s.c] = [slv s] from rfl]
  obtain ⟨y1, y2, y3⟩ := newR_ok w 105 1 [slv s]
  generalize newR h 105 1 [slv s] = g0 at y1 y2 y3 ⊢
  have sl : ∀ b, SlB s b → b < h.next := fun b hb => r.blk w hb
  obtain ⟨s1, g1, a1, a2, a3, a4, a5⟩ := mnumber_f k (by omega) y1.wf y3 (r.stay w y1) (fun f => by have := sl _ f; omega) 1 (by decide) 1 rfl
  rw [a1]
  simp only [Option.bind_some]
  have N := unbe1_le x
  obtain ⟨t, g2, us, b1, b2, b3, b4, b5⟩ := read_l0 k (by omega) (h0 := g0) (rb := h.next) (by omega) (unbe (x.take 1)) N (x.drop 1) s k 0 g1 ⟨none, 0, 0⟩ [] s1 (x.drop 1) (by omega) (Nat.zero_le _) a2 a3 a4 (fun z hz => sl z (a5 z hz)) TreeO.nil Fresh.nil rfl rfl
  rw [show (0 : Int) = Int.ofNat 0 from rfl, b1]
  simp only [Option.bind_some]
  have b5 : vols us = parseP x := b5
  have B : TreeB us := treeB_of b5 N
  have C2 : Ch0 h g2 := Ch0.at y1 b2 (Nat.le_refl _)
  obtain ⟨t3, g3, d1, d2, d3, d4⟩ := lay_f k (by omega) C2.wf b3.read B
  rw [d1]
  simp only [Option.bind_some]
  have C3 := C2.then d2
  rw [b5] at d1 d3 ⊢
  have G : ((cond ((if RightP (parseP x) then (0 : Int) else 1) != Int.ofNat 0) (some (true, g3))
      ((slices_Equal_byte_byte.f k t3 s g3).bind fun q12 =>
    some (!q12.1, q12.2))) : Option (Bool × H)) = some (!decide (OkP x), g3) := by
    by_cases R : RightP (parseP x)
    · rw [if_pos R] at d3 ⊢
      have ll := R.layLen
      rw [show ((0 : Int) != Int.ofNat 0) = false from rfl, cond_false, equal_f k d3.slr (r.stay w C3) (by omega) (by omega)]
      simp only [Option.bind_some]
      have : decide (OkP x) = decide (layP (parseP x) = x) := decide_eq_decide.2 ⟨fun f => f.2, fun f => ⟨R, f⟩⟩
      rw [this]
    · rw [if_neg R, decide_eq_false (fun f : OkP x => R f.1)]; rfl
  rw [G]
  simp only [Option.bind_some]
  by_cases ok : OkP x
  · rw [decide_eq_true ok, if_pos ok, if_pos ok]
    exact ⟨t, g3, us, rfl, C3, (b3.read).stay C2.wf d2, b5⟩
  · rw [decide_eq_false ok, if_neg ok, if_neg ok]
    exact ⟨_, g3, [], rfl, C3, (TreeO.nil (h := g3)).read, rfl⟩
/-! ### the same? -/
theorem sameInts_l0 (k : Nat) {h : H} {s t : Sl} {l m : List Int} (r : SlR 1 h s (ivs l)) (q : SlR 1 h t (ivs m)) (hl : l.length = m.length) (hx : l.length ≤ 100000) : ∀ n j, l.length - j < n → j ≤ l.length → l.take j = m.take j →
    ∃ v, corbelref7_SameInts.l0 k n s t (Int.ofNat j) h = some (v, h) ∧ ((v = .inr () ∧ l = m) ∨ (v = .inl false ∧ l ≠ m))
  | 0, j, hf, _, _ => by omega
  | n + 1, j, hf, hj, e => by
    rw [corbelref7_SameInts.l0_succ, SlR.ivn r]
    by_cases c : j < l.length
    · rw [decLt c, cond_true]
      obtain ⟨n1, p, e1, e2⟩ := SlR.int r c
      obtain ⟨n2, p', f1, f2⟩ := SlR.int q (show j < m.length by omega)
      rw [n1] at e1
      rw [e1]
      simp only [asP_ptr, Option.bind_some, e2, asI_int]
      rw [f1]
      simp only [asP_ptr, Option.bind_some, f2, asI_int]
      by_cases d : l[j] = m[j]
      · rw [d, show (m[j] != m[j]) = false by simp, cond_false, wrap_succ (by omega)]
        refine sameInts_l0 k r q hl hx n (j + 1) (by omega) (by omega) ?_
        rw [List.take_succ_eq_append_getElem c, List.take_succ_eq_append_getElem (by omega), e, d]
      · rw [show (l[j] != m[j]) = true by rw [bne_iff_ne]; exact d, cond_true]
        exact ⟨_, rfl, .inr ⟨rfl, fun f => d (by subst f; rfl)⟩⟩
    · rw [decNlt c, cond_false]
      rw [List.take_of_length_le (by omega), List.take_of_length_le (by omega)] at e
      exact ⟨_, rfl, .inl ⟨rfl, e⟩⟩
theorem sameInts_f (k : Nat) {h : H} {s t : Sl} {l m : List Int} (r : SlR 1 h s (ivs l)) (q : SlR 1 h t (ivs m)) (hx : l.length < k) (hx2 : l.length ≤ 100000) : corbelref7_SameInts.f k s t h = some (decide (l = m), h) := by
  unfold corbelref7_SameInts.f
  rw [SlR.ivn r, SlR.ivn q]
  by_cases c : l.length = m.length
  · rw [c, show (Int.ofNat m.length != Int.ofNat m.length) = false by simp, cond_false, show (0 : Int) = Int.ofNat 0 from rfl]
    obtain ⟨v, a1, a2⟩ := sameInts_l0 k r q c hx2 k 0 (by omega) (Nat.zero_le _) rfl
    rw [a1]
    rcases a2 with ⟨rfl, e⟩ | ⟨rfl, e⟩
    · rw [decide_eq_true e]; rfl
    · rw [decide_eq_false e]; rfl
  · rw [show (Int.ofNat l.length != Int.ofNat m.length) = true by rw [bne_iff_ne]; exact fun f => c (Int.ofNat.inj f), cond_true, decide_eq_false (fun f => c (by rw [f]))]
theorem Vol.ext_iff' (a b : Vol) : a = b ↔ a.nm = b.nm ∧ a.pa = b.pa ∧ a.sn = b.sn ∧ a.sz = b.sz ∧ a.mp = b.mp := by
  cases a; cases b
  simp only [Vol.mk.injEq]
theorem sameVol_f (k : Nat) (hk : 20000 < k) {h : H} (w : WF h) (q u : Vs) (Q : SlR 1 h q.2 (ivs q.1.mp)) (U : SlR 1 h u.2 (ivs u.1.mp)) (hb : q.1.mp.length ≤ 10000) :
    ∃ h', corbelref16_SameVolume.f k (voT q) (voT u) h = some (decide (q.1 = u.1), h') ∧ Ch0 h h' := by
  unfold corbelref16_SameVolume.f voT
  dsimp only
  rw [show [Value.string (ba q.1.nm), Value.string (ba q.1.pa), Value.bool q.1.sn, Value.int .i64 q.1.sz, Value.slice q.2.a q.2.n q.2.c] = voL q from rfl, show [Value.string (ba u.1.nm), Value.string (ba u.1.pa), Value.bool u.1.sn, Value.int .i64 u.1.sz, Value.slice u.2.a u.2.n u.2.c] = voL u from rfl]
  obtain ⟨y1, y2, y3⟩ := newR_ok w 58 5 (voL q)
  generalize newR h 58 5 (voL q) = g at y1 y2 y3 ⊢
  obtain ⟨z1, z2, z3⟩ := newR_ok y1.wf 58 5 (voL u)
  generalize newR g 58 5 (voL u) = f at z1 z2 z3 ⊢
  have I := y3.stay y1.wf z1
  have C := y1.then z1
  have q0 : asT (ldc f (some ⟨h.next, 0, none⟩)) = some (ba q.1.nm) := by rw [I.ldc]; exact asTs _
  have q1 : asT (ldc f (some ⟨h.next, 1, none⟩)) = some (ba q.1.pa) := by rw [I.ldc]; exact asTs _
  have q2 : asB (ldc f (some ⟨h.next, 2, none⟩)) = some q.1.sn := by rw [I.ldc]; exact asBs _
  have q3 : asI .i64 (ldc f (some ⟨h.next, 3, none⟩)) = some q.1.sz := by rw [I.ldc]; exact asI_int _ _
  have q4 : asS (ldc f (some ⟨h.next, 4, none⟩)) = some q.2 := by rw [I.ldc]; exact asS_slv _
  have u0 : asT (ldc f (some ⟨g.next, 0, none⟩)) = some (ba u.1.nm) := by rw [z3.ldc]; exact asTs _
  have u1 : asT (ldc f (some ⟨g.next, 1, none⟩)) = some (ba u.1.pa) := by rw [z3.ldc]; exact asTs _
  have u2 : asB (ldc f (some ⟨g.next, 2, none⟩)) = some u.1.sn := by rw [z3.ldc]; exact asBs _
  have u3 : asI .i64 (ldc f (some ⟨g.next, 3, none⟩)) = some u.1.sz := by rw [z3.ldc]; exact asI_int _ _
  have u4 : asS (ldc f (some ⟨g.next, 4, none⟩)) = some u.2 := by rw [z3.ldc]; exact asS_slv _
  rw [q0, u0]
  simp only [Option.bind_some]
  rw [q1, u1]
  simp only [Option.bind_some]
  rw [bat_eq, bat_eq]
  refine ⟨f, ?_, C⟩
  have E := Vol.ext_iff' q.1 u.1
  by_cases c0 : q.1.nm = u.1.nm
  rotate_left
  · rw [decide_eq_false c0, decide_eq_false (fun e => c0 (E.1 e).1)]; rfl
  rw [decide_eq_true c0]
  simp only [cond_true, Option.bind_some]
  by_cases c1 : q.1.pa = u.1.pa
  rotate_left
  · rw [decide_eq_false c1, decide_eq_false (fun e => c1 (E.1 e).2.1)]; rfl
  rw [decide_eq_true c1]
  simp only [cond_true, Option.bind_some]
  rw [q2, u2]
  simp only [Option.bind_some]
  by_cases c2 : q.1.sn = u.1.sn
  rotate_left
  · rw [show (q.1.sn == u.1.sn) = false by rw [beq_eq_false_iff_ne]; exact c2, decide_eq_false (fun e => c2 (E.1 e).2.2.1)]; rfl
  rw [show (q.1.sn == u.1.sn) = true by rw [c2]; simp]
  simp only [cond_true, Option.bind_some]
  rw [q3, u3]
  simp only [Option.bind_some]
  by_cases c3 : q.1.sz = u.1.sz
  rotate_left
  · rw [show (q.1.sz == u.1.sz) = false by rw [beq_eq_false_iff_ne]; exact c3, decide_eq_false (fun e => c3 (E.1 e).2.2.2.1)]; rfl
  rw [show (q.1.sz == u.1.sz) = true by rw [c3]; simp]
  simp only [cond_true, Option.bind_some]
  rw [q4, u4]
  simp only [Option.bind_some]
  rw [sameInts_f k (Q.stay w C) (U.stay w C) (by omega) (by omega)]
  simp only [Option.bind_some]
  rw [decide_eq_decide.2 (show q.1.mp = u.1.mp ↔ q.1 = u.1 from ⟨fun e => E.2 ⟨c0, c1, c2, c3, e⟩, fun e => (E.1 e).2.2.2.2⟩)]
theorem sameTree_l0 (k : Nat) (hk : 20000 < k) {h0 : H} (w0 : WF h0) {s t : Sl} {vs us : List Vs} (S : TreeR h0 s vs) (T : TreeR h0 t us) (B : TreeB vs) (hl : vs.length = us.length) : ∀ n i h, vs.length - i < n → i ≤ vs.length → Ch0 h0 h → (vols vs).take i = (vols us).take i →
    ∃ v h', corbelref16_SameTree.l0 k n s t (Int.ofNat i) h = some (v, h') ∧ Ch0 h0 h' ∧ ((v = .inr () ∧ vols vs = vols us) ∨ (v = .inl false ∧ vols vs ≠ vols us))
  | 0, i, h, hf, _, _, _ => by omega
  | n + 1, i, h, hf, hi, C, e => by
    rw [corbelref16_SameTree.l0_succ, S.n]
    have hn := B.n
    by_cases c : i < vs.length
    · rw [decLt c, cond_true]
      obtain ⟨b, o, e1, e2, _⟩ := (S.stay w0 C).at c
      rw [S.n] at e1
      rw [e1]
      simp only [asP_ptr, Option.bind_some]
      rw [e2, bindVo]
      obtain ⟨b', o', f1, f2, _⟩ := (T.stay w0 C).at (i := i) (by omega)
      rw [f1]
      simp only [asP_ptr, Option.bind_some]
      rw [f2, bindVo]
      have hv : (vols vs)[i]'(by rw [vols_len]; exact c) = vs[i].1 := by simp only [vols, List.getElem_map]
      have hu : (vols us)[i]'(by rw [vols_len]; omega) = (us[i]'(by omega)).1 := by simp only [vols, List.getElem_map]
      obtain ⟨h', a1, a2⟩ := sameVol_f k hk C.wf vs[i] (us[i]'(by omega)) ((S.mp _ (List.getElem_mem c)).stay w0 C) ((T.mp _ (List.getElem_mem (by omega))).stay w0 C) (B.nm _ (List.getElem_mem c)).2.2
      have a1 : corbelref16_SameVolume.f k ((voT vs[i]).1, (voT vs[i]).2.1, (voT vs[i]).2.2.1, (voT vs[i]).2.2.2.1, (voT vs[i]).2.2.2.2) ((voT (us[i]'(by omega))).1, (voT (us[i]'(by omega))).2.1, (voT (us[i]'(by omega))).2.2.1, (voT (us[i]'(by omega))).2.2.2.1, (voT (us[i]'(by omega))).2.2.2.2) h = _ := a1
      rw [a1]
      simp only [Option.bind_some]
      by_cases d : vs[i].1 = (us[i]'(by omega)).1
      · rw [decide_eq_true d, Bool.not_true, cond_false, wrap_succ (by omega)]
        refine sameTree_l0 k hk w0 S T B hl n (i + 1) h' (by omega) (by omega) (C.then a2) ?_
        rw [List.take_succ_eq_append_getElem (by rw [vols_len]; exact c), List.take_succ_eq_append_getElem (by rw [vols_len]; omega), e, hv, hu, d]
      · rw [decide_eq_false d, Bool.not_false, cond_true]
        refine ⟨_, h', rfl, C.then a2, .inr ⟨rfl, fun f => d ?_⟩⟩
        rw [← hv, ← hu]
        simp only [f]
    · rw [decNlt c, cond_false]
      rw [List.take_of_length_le (by rw [vols_len]; omega), List.take_of_length_le (by rw [vols_len]; omega)] at e
      exact ⟨_, h, rfl, C, .inl ⟨rfl, e⟩⟩
theorem sameTree_f (k : Nat) (hk : 20000 < k) {h : H} (w : WF h) {s t : Sl} {vs us : List Vs} (S : TreeR h s vs) (T : TreeR h t us) (B : TreeB vs) :
    ∃ h', corbelref16_SameTree.f k s t h = some (decide (vols vs = vols us), h') ∧ Ch0 h h' := by
  unfold corbelref16_SameTree.f
  rw [S.n, T.n]
  have hn := B.n
  by_cases c : vs.length = us.length
  · rw [show (Int.ofNat vs.length != Int.ofNat us.length) = false by rw [c]; simp, cond_false, show (0 : Int) = Int.ofNat 0 from rfl]
    obtain ⟨v, h', a1, a2, a3⟩ := sameTree_l0 k hk w S T B c k 0 h (by omega) (Nat.zero_le _) (Ch.refl w) rfl
    rw [a1]
    rcases a3 with ⟨rfl, e⟩ | ⟨rfl, e⟩
    · exact ⟨h', by rw [decide_eq_true e]; rfl, a2⟩
    · exact ⟨h', by rw [decide_eq_false e]; rfl, a2⟩
  · rw [show (Int.ofNat vs.length != Int.ofNat us.length) = true by rw [bne_iff_ne]; exact fun f => c (Int.ofNat.inj f), cond_true]
    exact ⟨h, by rw [decide_eq_false (fun f => c (by have := congrArg List.length f; rw [vols_len, vols_len] at this; exact this))], Ch.refl w⟩
def pad128 (y : List UInt8) : List UInt8 := y.take 128 ++ List.replicate (128 - y.length) 0
def cuts (x : List UInt8) : List (List UInt8) := (List.range ((x.length + 127) / 128)).map fun i => pad128 (x.drop (i * 128))
theorem pad128_len (y : List UInt8) : (pad128 y).length = 128 := by unfold pad128; rw [List.length_append, List.length_take, List.length_replicate]; omega
theorem cuts_len (x : List UInt8) : (cuts x).length = (x.length + 127) / 128 := by unfold cuts; rw [List.length_map, List.length_range]
theorem cuts_at (x : List UInt8) {i : Nat} (h : i < (x.length + 127) / 128) : (cuts x)[i]? = some (pad128 (x.drop (i * 128))) := by
  unfold cuts
  rw [List.getElem?_map, List.getElem?_range h]; rfl
theorem pad128_take (y : List UInt8) : pad128 (y.take 128) = pad128 y := by
  unfold pad128
  rw [List.take_take, List.length_take, Nat.min_self]
  congr 2
  omega
theorem whole_ok {h : H} (w : WF h) {x : Sl} {y : List UInt8} (r : SlR 1 h x (byt y)) :
    ∃ n h', asI2 .i64 (cpy 1 (Value.slice (some ⟨h.next, 0, none⟩) 128 128) (Value.slice x.a x.n x.c) (newZ h 5 1 [(Value.int .u8 (0 : Int))] 128)) = some (n, h') ∧ Ch0 h h' ∧ h'.next = h.next + 1 ∧ Is h' h.next 5 1 (byt (pad128 y)) := by
  obtain ⟨n1, n2, n3⟩ := newZ_ok w 5 1 (.int .u8 0) 128
  rw [Nat.mul_one, byt_rep] at n3
  obtain ⟨h2, w1, w2, w3, w4⟩ := cpy_ok (l := []) n1.wf (es := 1) (d := ⟨some ⟨h.next, 0, none⟩, 128, 128⟩) rfl n3 (by rw [byt_len, List.length_replicate]; exact Nat.le_refl _) (r.stay w n1) (byt_one _)
  refine ⟨Int.ofNat (min x.n 128), h2, by rw [w1]; rfl, Ch0.at n1 w2 (Nat.le_refl _), by omega, ?_⟩
  have hn := r.n_byt
  have e : over (byt (List.replicate 128 0)) 0 ((byt y).take (min x.n 128 * 1)) = byt (pad128 y) := by
    rw [hn, Nat.mul_one, byt_take]
    have et : y.take (min y.length 128) = y.take 128 := by
      by_cases c : y.length ≤ 128
      · rw [Nat.min_eq_left c, List.take_of_length_le (Nat.le_refl _), List.take_of_length_le c]
      · rw [Nat.min_eq_right (by omega)]
    rw [et]
    unfold over pad128
    rw [List.take_zero, List.nil_append, byt_len, List.length_take, byt_drop, List.drop_replicate, byt_app]
    congr 3
    omega
  rw [← e]; exact w4
/-! ### a list of bytes' slices -/
structure PsO (n0 : Nat) (h : H) (s : Sl) (ps : Parts) : Prop where
  ow : Ow 30 1 h s (ps.map fun p => slv p.1)
  rd : PartsR h ps
  fs : ∀ z, SlB s z → n0 ≤ z
  fp : ∀ p ∈ ps, ∀ z, SlB p.1 z → n0 ≤ z ∧ ¬ SlB s z
theorem PsO.nil {n0 : Nat} {h : H} : PsO n0 h ⟨none, 0, 0⟩ [] := ⟨Ow.nil, (fun _ f => by cases f), (fun z f => absurd f noSlB), (fun _ f => by cases f)⟩
theorem PsO.keep {n0 : Nat} {h h' : H} {s : Sl} {ps : Parts} (w : WF h) (P : PsO n0 h s ps) (k : ∀ z, n0 ≤ z → z < h.next → h'.get z = h.get z) : PsO n0 h' s ps :=
  ⟨P.ow.keep fun b hb => k b (P.fs b hb) (P.ow.lt w hb), fun p hp => (P.rd p hp).keep fun b hb => k b (P.fp p hp b hb).1 ((P.rd p hp).blk w hb), P.fs, P.fp⟩
theorem PsO.stay {n0 : Nat} {h h' : H} {s : Sl} {ps : Parts} (w : WF h) (P : PsO n0 h s ps) (c : Ch0 h h') : PsO n0 h' s ps := P.keep w fun z _ hz => c.keep z hz fun f => f
theorem slv_one (ps : Parts) : (ps.map fun p => slv p.1).all Den.one = true := by rw [List.all_map, List.all_eq_true]; intro x _; rfl
theorem PsO.n {n0 : Nat} {h : H} {s : Sl} {ps : Parts} (P : PsO n0 h s ps) : s.n = ps.length := by
  have := P.ow.slr.len
  rw [List.length_map, Nat.mul_one] at this
  exact this.symm
theorem PsO.push {n0 : Nat} {h : H} (w : WF h) {s : Sl} {ps : Parts} (P : PsO n0 h s ps) (hn : n0 ≤ h.next) (p : Sl × List UInt8) (rp : SlR 1 h p.1 (byt p.2)) (fp : ∀ z, SlB p.1 z → n0 ≤ z ∧ ¬ SlB s z) (hb : ps.length ≤ 2000000000000) :
    ∃ s' h', asS2 (apv 30 1 24 (.slice s.a s.n s.c) (.slice (some ⟨h.next, 0, none⟩) 1 1) (newR h 30 1 [slv p.1])) = some (s', h') ∧ Ch (SlB s) h h' ∧ PsO n0 h' s' (ps ++ [p]) ∧ ∀ b, SlB s' b → SlB s b ∨ h.next ≤ b := by
  obtain ⟨n1, n2, n3⟩ := newR_ok w 30 1 [slv p.1]
  obtain ⟨s', h', e1, e2, e3, e4, e5⟩ := apv_ok (by_ := 24) n1.wf (P.ow.stay w n1) (by decide) (SlR.of_is n3 (n := 1) rfl (by unfold unk; omega)) (by rw [P.n]; show (ps.length + 1) * 24 ≤ _; omega) rfl
  have c : Ch (SlB s) h h' := (n1.mono fun _ _ f => f.elim).trans e2 fun _ _ f => f
  have near : ∀ b, SlB s' b → SlB s b ∨ h.next ≤ b := fun b hb => (e5 b hb).imp id fun f => by omega
  have mem : ∀ q ∈ ps ++ [p], SlR 1 h q.1 (byt q.2) ∧ ∀ z, SlB q.1 z → n0 ≤ z ∧ ¬ SlB s z := fun q hq => by
    rcases List.mem_append.1 hq with z | z
    · exact ⟨P.rd q z, P.fp q z⟩
    · rw [List.mem_singleton.1 z]; exact ⟨rp, fp⟩
  refine ⟨s', h', e1, c, ⟨?_, fun q hq => ?_, fun z hz => (near z hz).elim (P.fs z) fun f => by omega, fun q hq z hz => ?_⟩, near⟩
  · rw [List.map_append]; exact e3
  · obtain ⟨r, f⟩ := mem q hq
    exact r.keep fun b hb => c.keep b (r.blk w hb) (f b hb).2
  · obtain ⟨r, f⟩ := mem q hq
    refine ⟨(f z hz).1, fun g => (near z g).elim (f z hz).2 fun y => ?_⟩
    have := r.blk w hz
    omega
/-! ### the program -/
theorem cut_l0 (k : Nat) {h0 w0h : H} {ob b o : Nat} (c : ChI) (hcn : c.n = 128) {x : List UInt8} (hcl : c.len = x.length) (hx : x.length ≤ 140737488355328) (X0 : h0.gets b o x.length = some (byt x)) (w0 : WF h0) (hob : h0.next ≤ ob) (hbs : ∀ h, Ch (fun z => ob = z ∨ w0h.next ≤ z) w0h h → sameVer w0h h c.bs = true ∧ sameVer w0h h c.bn = true) (hbl : b < h0.next) (hw : Ch0 h0 w0h) (hobl : ob < w0h.next) : ∀ n i h s ps, (x.length + 127) / 128 - i < n → i ≤ (x.length + 127) / 128 → Ch (fun z => ob = z ∨ w0h.next ≤ z) w0h h → Is h ob 63 1 [slv s] → PsO w0h.next h s ps → ps.map (·.2) = (cuts x).take i →
    ∃ h' s' ps', meta_Cut.l0 k n (some ⟨ob, 0, none⟩) c b o i w0h h = some h' ∧ Ch (fun z => ob = z ∨ w0h.next ≤ z) w0h h' ∧ Is h' ob 63 1 [slv s'] ∧ PsO w0h.next h' s' ps' ∧ ps'.map (·.2) = cuts x
  | 0, i, h, s, ps, hf, _, _, _, _, _ => by omega
  | n + 1, i, h, s, ps, hf, hi, hc, I, P, he => by
    rw [meta_Cut.l0_succ, hcn, hcl]
    by_cases ci : i < (x.length + 127) / 128
    · have hi2 : i * 128 < x.length := by omega
      have hb : Nat.ble x.length (i * 128) = false := by
        rw [Bool.eq_false_iff, ne_eq, Nat.ble_eq]; omega
      rw [hb, cond_false]
      have em : Nat.min 128 (x.length - i * 128) = min 128 (x.length - i * 128) := rfl
      rw [em]
      obtain ⟨m, hm⟩ : ∃ m, m = min 128 (x.length - i * 128) := ⟨_, rfl⟩
      rw [← hm]
      have gp : h0.gets b (o + i * 128) m = some (byt ((x.drop (i * 128)).take m)) := by
        rw [gets_sub X0 (i := i * 128) (m := m) (by omega), byt_drop, byt_take]
      have R0 : SlR 1 h0 ⟨some ⟨b, o + i * 128, none⟩, m, m⟩ (byt ((x.drop (i * 128)).take m)) := .inr ⟨b, o + i * 128, rfl, by rw [byt_len, List.length_take, List.length_drop]; show min m _ = m * 1; omega, by rw [Nat.mul_one]; exact gp, .inl ⟨Nat.le_refl _, by show m < unk; unfold unk; omega⟩⟩
      have kr : SlR 1 h ⟨some ⟨b, o + i * 128, none⟩, m, m⟩ (byt ((x.drop (i * 128)).take m)) := (R0.stay w0 hw).keep fun z hz => by
        have := R0.blk w0 hz
        have := hw.le
        exact hc.keep z (by omega) (by omega)
      obtain ⟨q, h1, a1, a2, a3, a4⟩ := whole_ok hc.wf kr
      have a1 : asI2 .i64 (cpy 1 (Value.slice (some ⟨h.next, 0, none⟩) 128 128) (Value.slice (some ⟨b, o + i * 128, none⟩) m m) (newZ h 5 1 [(Value.int .u8 (0 : Int))] 128)) = some (q, h1) := a1
      rw [a1]
      simp only [Option.bind_some]
      have I1 := I.stay hc.wf a2
      rw [I1.ldc, show asS (([slv s] : List Value)[0]?) = some s from rfl]
      simp only [Option.bind_some]
      have ep : pad128 ((x.drop (i * 128)).take m) = pad128 (x.drop (i * 128)) := by
        rw [← pad128_take (x.drop (i * 128))]
        congr 1
        by_cases z : 128 ≤ x.length - i * 128
        · rw [hm, Nat.min_eq_left z]
        · rw [List.take_of_length_le (by rw [List.length_drop]; omega), List.take_of_length_le (by rw [List.length_drop]; omega)]
      rw [ep] at a4
      have osl : ps.length = i := by
        have := congrArg List.length he
        rw [List.length_map, List.length_take, cuts_len] at this
        omega
      have lwh := hc.le
      have own : ∀ z, SlB (⟨some ⟨h.next, 0, none⟩, 128, 128⟩ : Sl) z → z = h.next := fun z ⟨oo, e⟩ => (congrArg Addr.block (Option.some.inj e)).symm
      obtain ⟨s', h2, f1, f2, f3, f4⟩ := (P.stay hc.wf a2).push a2.wf (by omega) (⟨some ⟨h.next, 0, none⟩, 128, 128⟩, pad128 (x.drop (i * 128))) (SlR.of_is a4 (n := 128) (by rw [byt_len, pad128_len]) (by unfold unk; omega)) (fun z hz => by
        rw [own z hz]
        exact ⟨lwh, fun f => by have := P.ow.lt hc.wf f; omega⟩) (by omega)
      have f1 : asS2 (apv 30 1 24 (Value.slice s.a s.n s.c) (Value.slice (some ⟨h1.next, 0, none⟩) 1 1) (newR h1 30 1 [Value.slice (some ⟨h.next, 0, none⟩) 128 128])) = some (s', h2) := f1
      rw [f1]
      simp only [Option.bind_some]
      have obh := I.lt hc.wf
      have I2 := I1.keep (f2.keep ob (by omega) fun f => by have := P.fs ob f; omega)
      obtain ⟨h3, g1, g2, g3, g4⟩ := I2.set f2.wf 0 (slv s') (by show 0 < 1; decide) rfl
      rw [show [Value.slice s'.a s'.n s'.c] = [slv s'] from rfl, g1]
      simp only [Option.bind_some]
      have hc2 : Ch (fun z => ob = z ∨ w0h.next ≤ z) w0h h3 := ((hc.trans a2 fun z hz f => f.elim).trans f2 fun z hz f => .inr (P.fs z f)).trans g2 fun z hz f => .inl f.symm
      obtain ⟨v1, v2⟩ := hbs h3 hc2
      rw [v1, v2, Bool.true_and, cond_true]
      refine cut_l0 k c hcn hcl hx X0 w0 hob hbs hbl hw hobl n (i + 1) h3 s' _ (by omega) (by omega) hc2 g4 (f3.keep f2.wf fun z hz hl => g2.keep z hl (by omega)) ?_
      rw [List.map_append, he, List.take_add_one (l := cuts x), cuts_at x ci]; rfl
    · have hb : Nat.ble x.length (i * 128) = true := by rw [Nat.ble_eq]; omega
      rw [hb, cond_true]
      rw [List.take_of_length_le (by rw [cuts_len]; omega)] at he
      exact ⟨h, s, ps, rfl, hc, I, P, he⟩
theorem cut_f (k : Nat) {h : H} (w : WF h) {sx : Sl} {x : List UInt8} (r : SlR 1 h sx (byt x)) (hx : x.length ≤ 140737488355328) (hk : x.length < k) (hk2 : 1000 < k) :
    ∃ s ps h', meta_Cut.f k sx h = some (s, h') ∧ Ch0 h h' ∧ SlR 1 h' s (ps.map fun p => slv p.1) ∧ PartsR h' ps ∧ ps.map (·.2) = cuts x := by
  obtain ⟨sa, sn, sc⟩ := sx
  unfold meta_Cut.f
  dsimp only
  rw [show [Value.slice none 0 0] = [slv ⟨none, 0, 0⟩] from rfl]
  obtain ⟨z1, z2, z3⟩ := newR_ok w 63 1 [slv ⟨none, 0, 0⟩]
  generalize newR h 63 1 [slv ⟨none, 0, 0⟩] = g0 at z1 z2 z3 ⊢
  unfold slices_Chunk_byte_byte.f
  rw [show [Value.slice sa sn sc] = [slv ⟨sa, sn, sc⟩] from rfl]
  obtain ⟨y1, y2, y3⟩ := newR_ok z1.wf 30 1 [slv ⟨sa, sn, sc⟩]
  generalize newR g0 30 1 [slv ⟨sa, sn, sc⟩] = g1 at y1 y2 y3 ⊢
  obtain ⟨x1, x2, x3⟩ := newR_ok y1.wf 3 1 [Value.int .i64 (128 : Int)]
  generalize newR g1 3 1 [Value.int .i64 (128 : Int)] = g2 at x1 x2 x3 ⊢
  rw [x3.ldc, show asI .i64 (([Value.int .i64 (128 : Int)] : List Value)[0]?) = some 128 from asI_int _ _]
  simp only [Option.bind_some]
  rw [decide_eq_false (show ¬ (128 : Int) < (1 : Int) by decide)]
  simp only [cond_false, Option.bind_some]
  have xn : sn = x.length := r.n_byt
  have Y3 := y3.stay y1.wf x1
  have oc : ∀ {b : Nat} {e es : Nat} {v : Value}, Is g2 b e es [v] → oneCell g2 b = some v := fun {b e es v} I => by
    obtain ⟨B, h1, h2, h3, h4, h5⟩ := I.rowAt
    unfold oneCell
    rw [h1]
    exact h5 0
  have ci : chInfo g2 (some ⟨g0.next, 0, none⟩, some ⟨g1.next, 0, none⟩) = some ⟨g0.next, g1.next, sa, x.length, sc, 128⟩ := by
    show (match oneCell g2 g0.next, oneCell g2 g1.next with
      | some (.slice base len cap), some (.int .i64 (.ofNat n)) => some (⟨g0.next, g1.next, base, len, cap, n⟩ : ChI)
      | _, _ => none) = _
    rw [oc Y3, oc x3]
    show some (⟨g0.next, g1.next, sa, sn, sc, 128⟩ : ChI) = _
    rw [xn]
  rw [ci]
  simp only [Option.bind_some]
  have Z : Is g2 h.next 63 1 [slv ⟨none, 0, 0⟩] := (z3.stay z1.wf y1).stay y1.wf x1
  have cc : Ch0 h g2 := (z1.then y1).then x1
  by_cases e0 : x.length = 0
  · have go : chGo (fun b0 o0 w0 h0 => meta_Cut.l0 k k (some ⟨h.next, 0, none⟩) ⟨g0.next, g1.next, sa, x.length, sc, 128⟩ b0 o0 0 w0 h0) ⟨g0.next, g1.next, sa, x.length, sc, 128⟩ g2 = some g2 := by
      unfold chGo
      rw [show Nat.beq (⟨g0.next, g1.next, sa, x.length, sc, 128⟩ : ChI).len 0 = true by show Nat.beq x.length 0 = true; rw [e0]; rfl, cond_true]
    rw [go]
    simp only [Option.bind_some]
    rw [Z.ldc, show asS (([slv (⟨none, 0, 0⟩ : Sl)] : List Value)[0]?) = some ⟨none, 0, 0⟩ from rfl]
    refine ⟨⟨none, 0, 0⟩, [], g2, rfl, cc, (PsO.nil (n0 := 0)).ow.slr, (fun p hp => by cases hp), ?_⟩
    have : x = [] := List.eq_nil_of_length_eq_zero e0
    rw [this]; rfl
  rcases r with ⟨e, _⟩ | ⟨b, o, r1, r2, r3, r4⟩
  · have := congrArg List.length e
    rw [byt_len] at this
    exact absurd this e0
  obtain rfl : sa = some ⟨b, o, none⟩ := r1
  have r3 : h.gets b o (sn * 1) = some (byt x) := r3
  rw [xn, Nat.mul_one] at r3
  have bl : b < h.next := by
    rcases Nat.lt_or_ge b h.next with q | q
    · exact q
    · unfold H.gets at r3; rw [w.dom b q] at r3; cases r3
  have lo : h.next < g2.next := by omega
  have cap : Nat.ble x.length sc = true := by
    rw [Nat.ble_eq]
    rcases r4 with ⟨q, _⟩ | q
    · have q : sn ≤ sc := q
      omega
    · have q : sc = unkOf 1 := q
      rw [q]; unfold unkOf unk; omega
  obtain ⟨h', s', ps, a1, a2, a3, a4, a5⟩ := cut_l0 k (h0 := h) (w0h := g2) (ob := h.next) (b := b) (o := o) ⟨g0.next, g1.next, some ⟨b, o, none⟩, x.length, sc, 128⟩ rfl rfl hx r3 w (Nat.le_refl _) (fun hh c => ⟨sameVer_of (c.keep g0.next (by omega) (by omega)), sameVer_of (c.keep g1.next (by omega) (by omega))⟩) bl cc lo k 0 g2 ⟨none, 0, 0⟩ [] (by omega) (by omega) (Ch.refl x1.wf) Z PsO.nil rfl
  have go : chGo (fun b0 o0 w0 h0 => meta_Cut.l0 k k (some ⟨h.next, 0, none⟩) ⟨g0.next, g1.next, some ⟨b, o, none⟩, x.length, sc, 128⟩ b0 o0 0 w0 h0) ⟨g0.next, g1.next, some ⟨b, o, none⟩, x.length, sc, 128⟩ g2 = some h' := by
    unfold chGo
    rw [show Nat.beq (⟨g0.next, g1.next, some ⟨b, o, none⟩, x.length, sc, 128⟩ : ChI).len 0 = false from beq_false e0, cond_false]
    show cond (Nat.ble 1 128 && Nat.blt (x.length + 128) 4611686018427387904 && Nat.ble x.length sc) (meta_Cut.l0 k k (some ⟨h.next, 0, none⟩) ⟨g0.next, g1.next, some ⟨b, o, none⟩, x.length, sc, 128⟩ b o 0 g2 g2) none = some h'
    rw [cap, show Nat.blt (x.length + 128) 4611686018427387904 = true from Nat.ble_eq_true_of_le (by omega)]
    exact a1
  rw [go]
  simp only [Option.bind_some]
  rw [a3.ldc, show asS (([slv s'] : List Value)[0]?) = some s' from rfl]
  refine ⟨s', ps, h', rfl, ?_, a4.ow.slr, a4.rd, a5⟩
  exact cc.trans a2 fun z hz f => by omega
/-! ### the reference -/
theorem rcut_l0 (k : Nat) {h0 : H} (w0 : WF h0) {sx : Sl} {x : List UInt8} (r : SlR 1 h0 sx (byt x)) (hx : x.length ≤ 140737488355328) : ∀ n i h s ps, (x.length + 127) / 128 - i < n → i ≤ (x.length + 127) / 128 → Ch0 h0 h → PsO h0.next h s ps → ps.map (·.2) = (cuts x).take i →
    ∃ s' h' ps', corbelref16_Cut.l0 k n sx s (Int.ofNat (i * 128)) h = some (s', h') ∧ Ch0 h0 h' ∧ PsO h0.next h' s' ps' ∧ ps'.map (·.2) = cuts x
  | 0, i, h, s, ps, hf, _, _, _, _ => by omega
  | n + 1, i, h, s, ps, hf, hi, C, P, he => by
    rw [corbelref16_Cut.l0_succ, r.n_byt]
    by_cases ci : i < (x.length + 127) / 128
    · have hi2 : i * 128 < x.length := by omega
      rw [decLt hi2, cond_true]
      obtain ⟨s1, a1, a2, a3, a4⟩ := subb_ok (r.stay w0 C) (lo := i * 128) (hi := x.length) (by omega) (Nat.le_refl _) (xlo := some (Int.ofNat (i * 128))) (xhi := none) rfl (by rw [r.n_byt]; rfl)
      rw [r.n_byt] at a1
      rw [a1]
      simp only [asS_slv, Option.bind_some]
      rw [List.take_of_length_le (by rw [List.length_drop]; exact Nat.le_refl _)] at a3
      obtain ⟨q, h1, b1, b2, b3, b4⟩ := whole_ok C.wf a3
      rw [b1]
      simp only [Option.bind_some]
      have osl : ps.length = i := by
        have := congrArg List.length he
        rw [List.length_map, List.length_take, cuts_len] at this
        omega
      have own : ∀ z, SlB (⟨some ⟨h.next, 0, none⟩, 128, 128⟩ : Sl) z → z = h.next := fun z ⟨oo, e⟩ => (congrArg Addr.block (Option.some.inj e)).symm
      have C1 := C.then b2
      obtain ⟨s', h2, f1, f2, f3, f4⟩ := (P.stay C.wf b2).push b2.wf C1.le (⟨some ⟨h.next, 0, none⟩, 128, 128⟩, pad128 (x.drop (i * 128))) (SlR.of_is b4 (n := 128) (by rw [byt_len, pad128_len]) (by unfold unk; omega)) (fun z hz => by
        rw [own z hz]
        exact ⟨C.le, fun f => by have := P.ow.lt C.wf f; omega⟩) (by omega)
      have f1 : asS2 (apv 30 1 24 (Value.slice s.a s.n s.c) (Value.slice (some ⟨h1.next, 0, none⟩) 1 1) (newR h1 30 1 [Value.slice (some ⟨h.next, 0, none⟩) 128 128])) = some (s', h2) := f1
      rw [f1]
      simp only [Option.bind_some]
      have e1 : Int.ofNat (i * 128) + 128 = Int.ofNat ((i + 1) * 128) := by simp only [Int.ofNat_eq_natCast]; omega
      rw [wrap_in (n := Int.ofNat (i * 128) + 128) (by simp only [Int.ofNat_eq_natCast]; omega) (by simp only [Int.ofNat_eq_natCast]; omega), e1]
      refine rcut_l0 k w0 r hx n (i + 1) h2 s' _ (by omega) (by omega) (Ch0.own C1 f2 P.fs) f3 ?_
      rw [List.map_append, he, List.take_add_one (l := cuts x), cuts_at x ci]; rfl
    · rw [decNlt (show ¬ i * 128 < x.length by omega), cond_false]
      rw [List.take_of_length_le (by rw [cuts_len]; omega)] at he
      exact ⟨s, h, ps, rfl, C, P, he⟩
theorem rcut_f (k : Nat) {h : H} (w : WF h) {sx : Sl} {x : List UInt8} (r : SlR 1 h sx (byt x)) (hx : x.length ≤ 140737488355328) (hk : x.length < k) (hk2 : 1000 < k) :
    ∃ s ps h', corbelref16_Cut.f k sx h = some (s, h') ∧ Ch0 h h' ∧ SlR 1 h' s (ps.map fun p => slv p.1) ∧ PartsR h' ps ∧ ps.map (·.2) = cuts x := by
  unfold corbelref16_Cut.f
  obtain ⟨s', h', ps, a1, a2, a3, a4⟩ := rcut_l0 k w r hx k 0 h ⟨none, 0, 0⟩ [] (by omega) (Nat.zero_le _) (Ch.refl w) PsO.nil rfl
  rw [show (0 : Int) = Int.ofNat (0 * 128) from rfl, a1]
  exact ⟨s', ps, h', rfl, a2, a3.ow.slr, a3.rd, a4⟩
theorem pad_eq (y : List UInt8) (hy : 0 < y.length) : pad128 y = (y ++ List.replicate 127 0).take 128 := by
  unfold pad128
  rw [List.take_append, List.take_replicate]
  congr 2
  omega
theorem cuts_flat (x : List UInt8) : ∀ n, n ≤ (x.length + 127) / 128 → ((List.range n).map fun i => pad128 (x.drop (i * 128))).flatten = (x ++ List.replicate 127 0).take (n * 128)
  | 0, _ => by simp
  | n + 1, h => by
    have ih := cuts_flat x n (by omega)
    have hl : n * 128 < x.length := by omega
    rw [List.range_succ, List.map_append, List.flatten_append, ih]
    have e : ([n].map fun i => pad128 (x.drop (i * 128))).flatten = pad128 (x.drop (n * 128)) := by simp
    rw [e, pad_eq _ (by rw [List.length_drop]; omega)]
    have e2 : x.drop (n * 128) ++ List.replicate 127 0 = (x ++ List.replicate 127 0).drop (n * 128) := by
      rw [List.drop_append, show n * 128 - x.length = 0 by omega, List.drop_zero]
    rw [e2, Nat.add_mul, Nat.one_mul, List.take_add]
def cutsAll (x : List UInt8) : List UInt8 := x ++ List.replicate ((x.length + 127) / 128 * 128 - x.length) 0
theorem cuts_all (x : List UInt8) : (cuts x).flatten = cutsAll x := by
  unfold cuts cutsAll
  rw [cuts_flat x _ (Nat.le_refl _), List.take_append, List.take_of_length_le (by omega), List.take_replicate]
  congr 2
  omega
theorem dynL_ok (ps : List (Nat × Nat)) (le : LEs) (ef : EFs) (h : ∀ x ∈ le, ∀ y ∈ ef, ∀ b, x.2 = some b → sameVer y.2.1 y.2.2 b = true) : dynL ps le ef = true := by
  unfold dynL
  rw [List.all_eq_true]
  intro q _
  rw [List.all_eq_true]
  intro x hx
  rw [List.all_eq_true]
  intro y hy
  have := h x hx y hy
  cases z : x.2 with
  | none => simp
  | some b =>
    have := this b z
    simp [this]
theorem blk_same {h h' : H} {s : Sl} (e : ∀ b, SlB s b → h'.get b = h.get b) : ∀ b, blkOf (some (Value.slice s.a s.n s.c)) = some b → sameVer h h' b = true := by
  obtain ⟨a, n, c⟩ := s
  intro b hb
  rcases a with _ | ⟨b', o, _ | z⟩
  · cases hb
  · have : b' = b := Option.some.inj hb
    subst this
    exact sameVer_of (e b' ⟨o, rfl⟩)
  · cases hb
/-- raw steps -/
theorem raws_of {h : H} (w : WF h) {s : Sl} {ls : List (List Value)} (r : SlR 5 h s ls.flatten) (hl : ∀ l ∈ ls, l.length = 5) (hs : ∀ l ∈ ls, ∃ a b c d e, l = rawL a b c d e) : RawsR h s := by
  intro h' c i hi
  obtain ⟨n, g⟩ := SlR.grp (es := 5) (gs := ls) (r.stay w c) (by decide) hl
  have hi' : i < ls.length := by omega
  obtain ⟨b, o, e1, e2⟩ := g i hi'
  obtain ⟨x1, x2, x3, x4, x5, e⟩ := hs _ (List.getElem_mem hi')
  rw [e] at e2
  rw [n]
  exact ⟨b, o, x1, x2, x3, x4, x5, e1, e2⟩
theorem raws_arg {h : H} (w : WF h) {xs : List (Int × Int × Int × Int × Int)} {vs : List Value} (r : RSl 5 (RPair (RInt .i64) (RPair (RInt .i64) (RPair (RInt .i64) (RPair (RInt .i64) (RInt .i64))))) h xs vs) : ∃ s : Sl, vs = [s.v] ∧ RawsR h s := by
  obtain ⟨s, ls, rfl, s1, s2, s3, s4, s5, s6⟩ := RSl.many w (by decide) r
  refine ⟨s, rfl, raws_of w s2 s4 fun l hl => ?_⟩
  obtain ⟨i, hi, rfl⟩ := List.mem_iff_getElem.1 hl
  obtain ⟨x1, y1, e4, z1, x2, y2, rfl, z2, x3, y3, rfl, z3, x4, y4, rfl, z4, z5⟩ := s5 i _ _ (List.getElem?_eq_getElem (show i < xs.length by omega)) (List.getElem?_eq_getElem hi)
  obtain rfl := z1
  obtain rfl := z2
  obtain rfl := z3
  obtain rfl := z4
  obtain rfl := z5
  exact ⟨_, _, _, _, _, e4⟩
end Go.Proofs.Ytfenkpghcbohdaa.Fw
