/- TreeSizes: the law's forward run comes to true. -/
import Derived.Test.YtfenkpghcbohdaaPbFwApA
import Derived.Test.YtfenkpghcbohdaaPbArTreeSizes
namespace Go.Proofs.Ytfenkpghcbohdaa
open Go Den Fwd Fw
set_option linter.unusedVariables false
set_option linter.unusedSimpArgs false
theorem Pure.one_of {us : List Vs} {v : Vol} (e : vols us = [v]) : ∃ m, us = [(v, m)] := by
  rcases us with _ | ⟨⟨u, m⟩, _ | ⟨x, us⟩⟩
  · cases e
  · exact ⟨m, by unfold vols at e; simp at e; rw [e]⟩
  · have := congrArg List.length e
    simp [vols] at this
/-- what is had of a map: what it has within, and 0 behind -/
structure Pure.Had (mp H : List Int) : Prop where
  le : H.length ≤ mp.length
  at_ : ∀ k, k < mp.length → mp[k]? = some (H.getD k 0)
theorem Pure.Had.sized {mp H : List Int} (A : Pure.Had mp H) {n : Nat} (sz : Int) (hs : sz / 8 = n) : Pure.Had (sizedP mp sz) (H.take n) ∧ (sizedP mp sz).length = n := by
  have el : (sizedP mp sz).length = n := by
    unfold sizedP zerosI
    rw [List.length_take, List.length_append, List.length_replicate]
    omega
  refine ⟨⟨by rw [el, List.length_take]; omega, fun k hk => ?_⟩, el⟩
  rw [el] at hk
  have e1 : (H.take n).getD k 0 = H.getD k 0 := by
    rw [List.getD_eq_getElem?_getD, List.getD_eq_getElem?_getD, List.getElem?_take, if_pos hk]
  rw [e1]
  unfold sizedP zerosI
  rw [List.getElem?_take, if_pos (by omega)]
  by_cases c : k < mp.length
  · rw [List.getElem?_append_left c]
    exact A.at_ k c
  · rw [List.getElem?_append_right (by omega), List.getElem?_replicate, if_pos (by omega), List.getD_eq_getElem?_getD, List.getElem?_eq_none (by have := A.le; omega)]
    rfl
theorem Pure.Had.self (mp : List Int) : Pure.Had mp mp := ⟨Nat.le_refl _, fun k hk => by rw [List.getD_eq_getElem?_getD, List.getElem?_eq_getElem hk]; rfl⟩
theorem Pure.sz_l2 (k : Nat) {h : H} {t a2 : Sl} {q : Vs} (T : TreeR h t [q]) {mp Hv : List Int} (em : q.1.mp = mp) (A : Pure.Had mp Hv) (r : SlR 1 h a2 (ivs Hv)) (hb : mp.length ≤ 1000) (x53 : Sl) (x55 : Int) : ∀ n i, mp.length - i < n → i ≤ mp.length →
    corbellaw18_TreeSizes.l2 k n x53 a2 x55 t (Int.ofNat mp.length) (Int.ofNat i) h = some (.inr (), h)
  | 0, i, hf, _ => by omega
  | n + 1, i, hf, hi => by
    rw [corbellaw18_TreeSizes.l2_succ]
    by_cases c : i < mp.length
    rotate_left
    · rw [decNlt c, cond_false]
    rw [decLt c, cond_true]
    have J : (cond (decide (Int.ofNat i < Int.ofNat a2.n)) ((asP (ixs 1 a2.a a2.n (Int.ofNat i))).bind fun p60 => (asI .i64 (ldc h p60)).bind fun n61 => some (n61, h)) (some ((0 : Int), h)) : Option (Int × H)) = some (Hv.getD i 0, h) := by
      rw [SlR.ivn r, List.getD_eq_getElem?_getD]
      by_cases d : i <Hv.length
      · rw [decLt d, cond_true]
        obtain ⟨_, p, e1, e2⟩ := SlR.int r d
        rw [SlR.ivn r] at e1
        rw [e1]
        simp only [asP_ptr, Option.bind_some]
        rw [e2, asI_int, List.getElem?_eq_getElem d]; rfl
      · rw [decNlt d, cond_false, List.getElem?_eq_none (by omega)]; rfl
    rw [J]
    simp only [Option.bind_some]
    obtain ⟨b, o, e1, e2, e3⟩ := T.at (i := 0) Nat.one_pos
    rw [show (0 : Int) = Int.ofNat 0 from rfl, e1]
    simp only [asP_ptr, Option.bind_some, fadd]
    rw [e3 4 (by decide), show asS ((voL [q][0])[4]?) = some q.2 from asS_slv _]
    simp only [Option.bind_some]
    have M := T.mp q List.mem_cons_self
    rw [em] at M
    obtain ⟨_, p, f1, f2⟩ := SlR.int M c
    rw [f1]
    simp only [asP_ptr, Option.bind_some]
    rw [f2, asI_int]
    simp only [Option.bind_some]
    have := A.at_ i c
    rw [List.getElem?_eq_getElem c] at this
    have this : mp[i] =Hv.getD i 0 := Option.some.inj this
    rw [this, show (Hv.getD i 0 !=Hv.getD i (Int.ofNat 0)) = false by simp, cond_false, show wrapA .i64 (Int.ofNat i + 1) = Int.ofNat (i + 1) from wrap_succ (by omega)]
    exact Pure.sz_l2 k T em A r hb x53 x55 n (i + 1) (by omega) (by omega)
theorem Pure.sz_l1 (k : Nat) (hk : 20000 < k) {h0 : H} (w0 : WF h0) {a1 : Sl} {l : List Int} (r1 : SlR 1 h0 a1 (ivs l)) : ∀ n i h t q s Hv, 20 - i < n → i ≤ 20 → Ch0 h0 h → TreeR h t [q] → RightP [q.1] → q.1.nm = [118] → q.1.sn = false → Pure.Had q.1.mp Hv → SlR 1 h s (ivs Hv) →
    ∃ h', corbellaw18_TreeSizes.l1 k n a1 t s (Int.ofNat i) h = some (.inr (), h')
  | 0, i, h, t, q, s, Hv, hf, _, _, _, _, _, _, _, _ => by omega
  | n + 1, i, h, t, q, s, Hv, hf, hi, C, T, R, hq1, hq2, A, r => by
    rw [corbellaw18_TreeSizes.l1_succ]
    rw [SlR.ivn r1]
    by_cases c1 : i < l.length
    rotate_left
    · rw [decNlt c1]
      exact ⟨h, rfl⟩
    rw [decLt c1, cond_true]
    by_cases c2 : i < 20
    rotate_left
    · rw [show decide (Int.ofNat i < (20 : Int)) = false from decNlt (b := 20) c2]
      exact ⟨h, rfl⟩
    rw [show decide (Int.ofNat i < (20 : Int)) = true from decLt (b := 20) c2]
    simp only [Option.bind_some, cond_true]
    obtain ⟨_, p, e1, e2⟩ := SlR.int (r1.stay w0 C) c1
    rw [SlR.ivn r1] at e1
    rw [e1]
    simp only [asP_ptr, Option.bind_some]
    rw [e2, asI_int]
    simp only [Option.bind_some]
    rw [pick_f k _ 33 h (by decide) (by decide)]
    simp only [Option.bind_some]
    have z0 := Int.emod_nonneg l[i] (show (33 : Int) ≠ 0 by decide)
    have z1 := Int.emod_lt_of_pos l[i] (show (0 : Int) < 33 by decide)
    generalize l[i] % 33 = z at z0 z1 ⊢
    obtain ⟨m, rfl⟩ : ∃ m : Nat, z = Int.ofNat m := ⟨_, nn _ z0⟩
    simp only [Int.ofNat_eq_natCast] at z0 z1
    rw [show wrapA .i64 (Int.ofNat m * 8) = Int.ofNat (m * 8) from wrap_in (n := Int.ofNat m * 8) (by simp only [Int.ofNat_eq_natCast]; omega) (by simp only [Int.ofNat_eq_natCast]; omega)]
    obtain ⟨t', h2, us, j1, j2, j3, j4, j5⟩ := tresize_f k hk C.wf T (show RightP (vols [q]) from R) [118] (Int.ofNat (m * 8))
    have hz : okSize (Int.ofNat (m * 8)) = true := okSize_iff.2 ⟨by simp only [Int.ofNat_eq_natCast]; omega, by simp only [Int.ofNat_eq_natCast]; omega, by simp only [Int.ofNat_eq_natCast]; omega⟩
    have er : resizeP (vols [q]) [118] (Int.ofNat (m * 8)) = (0, [resz [118] (Int.ofNat (m * 8)) q.1]) := by
      unfold resizeP findV
      rw [show vols [q] = [q.1] from rfl, List.find?_cons_of_pos (by rw [hq1]; rfl)]
      simp only
      rw [hq2, if_neg (by decide), if_pos hz]
      rfl
    rw [er] at j1 j5
    have er2 : resz [118] (Int.ofNat (m * 8)) q.1 = { q.1 with sz := Int.ofNat (m * 8), mp := sizedP q.1.mp (Int.ofNat (m * 8)) } := by unfold resz; rw [if_pos hq1]
    rw [er2] at j5
    have R' : RightP [({ q.1 with sz := Int.ofNat (m * 8), mp := sizedP q.1.mp (Int.ofNat (m * 8)) } : Vol)] := by
      have := (resizeP_right R (nm := [118]) (sz := Int.ofNat (m * 8)) (by rw [show ([q.1] : List Vol) = vols [q] from rfl, er])).1
      rw [show ([q.1] : List Vol) = vols [q] from rfl, er, er2] at this
      exact this
    obtain ⟨mm, rfl⟩ := Pure.one_of j5
    rw [show (⟨#[118]⟩ : ByteArray) = ba [118] from rfl, j1]
    have T2 := j3.read
    have r2 := r.stay C.wf j2
    obtain ⟨B1, B2⟩ := A.sized (n := m) (Int.ofNat (m * 8)) (by simp only [Int.ofNat_eq_natCast]; omega)
    simp only [Option.bind_some]
    rw [T2.n, show ((0 : Int) != 0) = false from rfl, show (Int.ofNat [(({ q.1 with sz := Int.ofNat (m * 8), mp := sizedP q.1.mp (Int.ofNat (m * 8)) } : Vol), mm)].length != (1 : Int)) = false from rfl]
    simp only [cond_false, Option.bind_some]
    obtain ⟨b, o, g1, g2, g3⟩ := T2.at (i := 0) Nat.one_pos
    rw [T2.n] at g1
    rw [show (0 : Int) = Int.ofNat 0 from rfl, g1]
    simp only [asP_ptr, Option.bind_some, fadd]
    rw [g3 4 (by decide), show asS ((voL [(({ q.1 with sz := Int.ofNat (m * 8), mp := sizedP q.1.mp (Int.ofNat (m * 8)) } : Vol), mm)][0])[4]?) = some mm from asS_slv _]
    simp only [Option.bind_some]
    have M := T2.mp _ List.mem_cons_self
    have M : SlR 1 h2 mm (ivs (sizedP q.1.mp (Int.ofNat (m * 8)))) := M
    rw [SlR.ivn M, B2, show (Int.ofNat m != Int.ofNat m) = false by simp]
    simp only [cond_false, Option.bind_some]
    rw [g3 3 (by decide), show asI .i64 ((voL [(({ q.1 with sz := Int.ofNat (m * 8), mp := sizedP q.1.mp (Int.ofNat (m * 8)) } : Vol), mm)][0])[3]?) = some (Int.ofNat (m * 8)) from asI_int _ _]
    simp only [Option.bind_some]
    rw [show (Int.ofNat (m * 8) != Int.ofNat (m * 8)) = false by simp]
    simp only [cond_false, Option.bind_some]
    have ec : (cond (decide (Int.ofNat m < Int.ofNat s.n)) (Int.ofNat m) (Int.ofNat s.n)) = Int.ofNat (min m s.n) := by
      by_cases c : m < s.n
      · rw [decLt c, cond_true, Nat.min_eq_left (by omega)]
      · rw [decNlt c, cond_false, Nat.min_eq_right (by omega)]
    rw [ec]
    obtain ⟨s4, a1', a2, a3, a4⟩ := subs_ok r2 (lo := 0) (hi := min m s.n) (Nat.zero_le _) (Nat.min_le_right _ _) (xlo := none) (xhi := some (Int.ofNat (min m s.n))) rfl rfl
    rw [a1']
    rw [show (some (Value.slice s4.a s4.n s4.c)) = some (slv s4) from rfl, asS_slv]
    simp only [Option.bind_some]
    rw [Nat.zero_mul, List.drop_zero, Nat.mul_one, Nat.sub_zero, ivs_take, SlR.ivn r] at a3
    have eH :Hv.take (min m Hv.length) =Hv.take m := by
      by_cases c : m ≤Hv.length
      · rw [Nat.min_eq_left c]
      · rw [Nat.min_eq_right (by omega), List.take_of_length_le (Nat.le_refl _), List.take_of_length_le (by omega)]
    rw [eH] at a3
    rw [g3 4 (by decide), show asS ((voL [(({ q.1 with sz := Int.ofNat (m * 8), mp := sizedP q.1.mp (Int.ofNat (m * 8)) } : Vol), mm)][0])[4]?) = some mm from asS_slv _]
    simp only [Option.bind_some]
    rw [SlR.ivn M, B2]
    have L2 := Pure.sz_l2 k T2 (mp := sizedP q.1.mp (Int.ofNat (m * 8))) rfl B1 a3 (by rw [B2]; omega) a1 (Int.ofNat i) k 0 (by rw [B2]; omega) (Nat.zero_le _)
    rw [B2] at L2
    rw [L2]
    simp only [Option.bind_some]
    rw [show wrapA .i64 (Int.ofNat i + 1) = Int.ofNat (i + 1) from wrap_succ (by omega)]
    exact Pure.sz_l1 k hk w0 r1 n (i + 1) h2 t' _ s4 (Hv.take m) (by omega) (by omega) (C.then j2) T2 R' hq1 hq2 B1 a3
theorem Pure.sz_l0 (k : Nat) {h0 : H} (w0 : WF h0) {a0 x12 : Sl} {l : List Int} (r0 : SlR 1 h0 a0 (ivs l)) (m : Nat) (hm : m ≤ l.length) (hm2 : m ≤ 20) : ∀ n i h t q, m - i < n → i ≤ m → Ch0 h0 h → TreeO h t [q] → Fresh h0.next t [q] → RightP [q.1] → q.1.nm = [118] → q.1.sn = false → q.1.mp.length = m →
    ∃ h' q', corbellaw18_TreeSizes.l0 k n a0 x12 t (Int.ofNat m) (Int.ofNat i) h = some ((), h') ∧ Ch0 h0 h' ∧ TreeO h' t [q'] ∧ RightP [q'.1] ∧ q'.1.nm = [118] ∧ q'.1.sn = false ∧ q'.1.mp.length = m
  | 0, i, h, t, q, hf, _, _, _, _, _, _, _, _ => by omega
  | n + 1, i, h, t, q, hf, hi, C, O, F, R, e1, e2, e3 => by
    rw [corbellaw18_TreeSizes.l0_succ]
    by_cases c : i < m
    rotate_left
    · rw [decNlt c, cond_false]
      exact ⟨h, q, rfl, C, O, R, e1, e2, e3⟩
    rw [decLt c, cond_true]
    obtain ⟨b, o, g1, g2, g3⟩ := O.read.at (i := 0) Nat.one_pos
    rw [show (0 : Int) = Int.ofNat 0 from rfl, g1]
    simp only [asP_ptr, Option.bind_some, fadd]
    rw [g3 4 (by decide), show asS ((voL [q][0])[4]?) = some q.2 from asS_slv _]
    simp only [Option.bind_some]
    obtain ⟨_, p, f1, f2⟩ := SlR.int (r0.stay w0 C) (show i < l.length by omega)
    rw [f1]
    simp only [asP_ptr, Option.bind_some]
    rw [f2, asI_int]
    simp only [Option.bind_some]
    rw [pick_f k _ 20 h (by decide) (by decide)]
    simp only [Option.bind_some]
    have z0 := Int.emod_nonneg l[i] (show (20 : Int) ≠ 0 by decide)
    have z1 := Int.emod_lt_of_pos l[i] (show (0 : Int) < 20 by decide)
    generalize l[i] % 20 = z at z0 z1 ⊢
    have M := O.mp q List.mem_cons_self
    obtain ⟨bb, h2, s1, s2, s3, s4, s5⟩ := seti C.wf M (j := i) (by omega) (wrapA .i64 (17 + z))
    rw [s1]
    simp only [asP_ptr, Option.bind_some]
    rw [s2]
    simp only [Option.bind_some]
    rw [same1_of rfl]
    simp only [Bool.and_self, cond_true]
    rw [wrap_in (n := 17 + z) (by omega) (by omega)] at s5
    have lt : 0 < [q].length := Nat.one_pos
    have O2 := TreeO.setMap C.wf O lt s3 s5
    have ok : okN (17 + z) = true := by
      unfold okN
      rw [decide_eq_true (show 17 ≤ 17 + z by omega), decide_eq_true (show 17 + z < 40 by omega)]
      simp
    have R2 := right_set (vs := [q]) R lt (rightMap_set (R.ma q.1 List.mem_cons_self) i (17 + z) ok)
    have C2 := Ch0.own C s3 fun x hx => F.2 q List.mem_cons_self x hx
    rw [show wrapA .i64 (Int.ofNat i + 1) = Int.ofNat (i + 1) from wrap_succ (by omega)]
    exact Pure.sz_l0 k w0 r0 m hm hm2 n (i + 1) h2 t (setQ q (q.1.mp.set i (17 + z))) (by omega) (by omega) C2 O2 (F.setMap lt _) R2 e1 e2 (by show (q.1.mp.set i (17 + z)).length = m; rw [List.length_set]; exact e3)
theorem Pure.sz_f (k : Nat) (hk : 20000 < k) {h : H} (w : WF h) {a0 a1 : Sl} {l m : List Int} (r0 : SlR 1 h a0 (ivs l)) (r1 : SlR 1 h a1 (ivs m)) : ∃ h', corbellaw18_TreeSizes.f k a0 a1 h = some (true, h') := by
  unfold corbellaw18_TreeSizes.f
  simp only [Bool.not_true, cond_false]
  have n0 := SlR.ivn r0
  have ec : (cond (decide ((20 : Int) < Int.ofNat a0.n)) (20 : Int) (Int.ofNat a0.n)) = Int.ofNat (min 20 l.length) := by
    rw [n0]
    by_cases c : 20 < l.length
    · rw [show decide ((20 : Int) < Int.ofNat l.length) = true from decLt (a := 20) c, cond_true, Nat.min_eq_left (by omega)]; rfl
    · rw [show decide ((20 : Int) < Int.ofNat l.length) = false from decNlt (a := 20) c, cond_false, Nat.min_eq_right (by omega)]
  rw [ec]
  have hj1 : min 20 l.length ≤ 20 := Nat.min_le_left _ _
  have hj2 : min 20 l.length ≤ l.length := Nat.min_le_right _ _
  generalize min 20 l.length = j at hj1 hj2 ⊢
  obtain ⟨s4, b1, b2, b3, b4⟩ := subs_ok r0 (lo := 0) (hi := j) (Nat.zero_le _) (by rw [n0]; exact hj2) (xlo := none) (xhi := some (Int.ofNat j)) rfl rfl
  rw [b1]
  rw [show (some (Value.slice s4.a s4.n s4.c)) = some (slv s4) from rfl, asS_slv]
  simp only [Option.bind_some]
  rw [b2, Nat.sub_zero, show wrapA .i64 ((8 : Int) * Int.ofNat j) = Int.ofNat (8 * j) from wrap_in (n := (8 : Int) * Int.ofNat j) (by simp only [Int.ofNat_eq_natCast]; omega) (by simp only [Int.ofNat_eq_natCast]; omega)]
  obtain ⟨t, h1, us, c1, c2, c3, c4, c5⟩ := tcreate_f k hk w (s := ⟨none, 0, 0⟩) (vs := []) TreeO.nil.read ⟨List.Pairwise.nil, (fun _ f => by cases f), (fun _ f => by cases f), (fun _ f => by cases f), Nat.zero_le _⟩ [118] (by show 1 < k; omega) (Int.ofNat (8 * j))
  have hz : okSize (Int.ofNat (8 * j)) = true := okSize_iff.2 ⟨by simp only [Int.ofNat_eq_natCast]; omega, by simp only [Int.ofNat_eq_natCast]; omega, by simp only [Int.ofNat_eq_natCast]; omega⟩
  have ez : (Int.ofNat (8 * j) / 8).toNat = j := by simp only [Int.ofNat_eq_natCast]; omega
  have er : createP (vols []) [118] (Int.ofNat (8 * j)) = (0, [⟨[118], [], false, Int.ofNat (8 * j), zerosI (Int.ofNat (8 * j))⟩]) := by
    unfold createP
    rw [hz, show isName [118] = true by decide +kernel]
    rfl
  have R := createP_right (t := vols []) ⟨List.Pairwise.nil, (fun _ f => by cases f), (fun _ f => by cases f), (fun _ f => by cases f), Nat.zero_le _⟩ (nm := [118]) (sz := Int.ofNat (8 * j)) (by rw [er])
  rw [er] at c1 c5 R
  obtain ⟨mm, rfl⟩ := Pure.one_of c5
  rw [show (⟨#[118]⟩ : ByteArray) = ba [118] from rfl, c1]
  simp only [Option.bind_some]
  have T := c3.read
  have zl : (zerosI (Int.ofNat (8 * j))).length = j := by unfold zerosI; rw [List.length_replicate, ez]
  obtain ⟨b, o, g1, g2, g3⟩ := T.at (i := 0) Nat.one_pos
  have sl4 : asS (ldc h1 (some ⟨b, o + 4, none⟩)) = some mm := by rw [g3 4 (by decide)]; exact asS_slv _
  have M : SlR 1 h1 mm (ivs (zerosI (Int.ofNat (8 * j)))) := T.mp _ List.mem_cons_self
  rw [T.n] at g1 ⊢
  rw [show ((0 : Int) != 0) = false from rfl, show (Int.ofNat [((⟨[118], [], false, Int.ofNat (8 * j), zerosI (Int.ofNat (8 * j))⟩ : Vol), mm)].length != (1 : Int)) = false from rfl]
  simp only [cond_false, Option.bind_some]
  rw [show (0 : Int) = Int.ofNat 0 from rfl, g1]
  simp only [asP_ptr, Option.bind_some, fadd]
  rw [sl4]
  simp only [Option.bind_some]
  rw [SlR.ivn M, zl, show (Int.ofNat j != Int.ofNat j) = false by simp]
  simp only [cond_false, Option.bind_some]
  rw [sl4]
  simp only [Option.bind_some]
  rw [SlR.ivn M, zl]
  obtain ⟨h2, q, d1, d2, d3, d4, d5, d6, d7⟩ := Pure.sz_l0 k w (a0 := a0) (x12 := a1) r0 j hj2 hj1 k 0 h1 t (⟨[118], [], false, Int.ofNat (8 * j), zerosI (Int.ofNat (8 * j))⟩, mm) (by omega) (Nat.zero_le _) c2 c3 c4 R.1 rfl rfl zl
  rw [d1]
  simp only [Option.bind_some]
  obtain ⟨n1, n2, n3⟩ := newR_ok d2.wf 3 1 []
  obtain ⟨b', o', y1, y2, y3⟩ := (d3.read.stay d2.wf n1).at (i := 0) Nat.one_pos
  rw [d3.read.n] at y1
  obtain ⟨rfl, rfl⟩ : b' = b ∧ o' = o := by
    have e := g1.symm.trans y1
    cases e
    exact ⟨rfl, rfl⟩
  rw [y3 4 (by decide), show asS ((voL [q][0])[4]?) = some q.2 from asS_slv _]
  simp only [Option.bind_some]
  have M2 := d3.read.mp q List.mem_cons_self
  obtain ⟨hv, h3, v1, v2, v3, v4⟩ := dup_ok d2.wf M2 (by omega)
  rw [v1]
  simp only [Option.bind_some]
  obtain ⟨h4, x1⟩ := Pure.sz_l1 k hk w r1 k 0 h3 t q hv q.1.mp (by omega) (Nat.zero_le _) (d2.then v2) (d3.read.stay d2.wf v2) d4 d5 d6 (Pure.Had.self _) v3.slr
  rw [x1]
  exact ⟨h4, rfl⟩
theorem Pure.TreeSizes : ∀ h x vs, Den.WF h → Den.Dead h → Ar.TreeSizes.R h x vs → Ar.TreeSizes.Q x → ∃ a, Den.encL [.sl, .sl] a = vs ∧ Den.toldB (Fwd.corbellaw18_TreeSizes.f 2000000 a.1 a.2 h) = true := by
  rintro h ⟨l, m, _⟩ vs w _ ⟨va, vb, rfl, r1, vc, vd, rfl, r2, rfl⟩ _
  obtain ⟨s, rfl, s1, _⟩ := RSl.one (f := fun n : Int => Value.int .i64 n) (fun h x l r => r) w r1
  obtain ⟨t, rfl, t1, _⟩ := RSl.one (f := fun n : Int => Value.int .i64 n) (fun h x l r => r) w r2
  obtain ⟨h', e⟩ := Pure.sz_f 2000000 (by decide) w (a0 := s) (a1 := t) s1 t1
  exact ⟨(s, t), rfl, (congrArg toldB e).trans rfl⟩
end Go.Proofs.Ytfenkpghcbohdaa
