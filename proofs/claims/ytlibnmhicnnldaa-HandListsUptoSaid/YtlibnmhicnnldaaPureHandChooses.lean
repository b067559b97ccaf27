/- HandChooses: the law's forward run comes to true. -/
import Derived.Test.YtlibnmhicnnldaaFwHand
import Derived.Test.YtlibnmhicnnldaaArHandChooses
namespace Go.Proofs.Ytlibnmhicnnldaa
open Go Den Fwd Fw
set_option linter.unusedVariables false
set_option linter.unusedSimpArgs false
theorem Pure.eqptr22 (p : Addr) : binO1 Try.prog .eql 22 (.pointer (some p)) (.pointer none) = some (.bool false) := by
  simp [binO1, binB, binA, Try.underlying22, eqA]
theorem Pure.nilOw {h : H} : Ow 5 1 h ⟨none, 0, 0⟩ (byt []) := Ow.nil
theorem Pure.cutOpt (o : Nat) (d y : List UInt8) (ho : o < 4294967296) (hd : d.length < 4294967296) : cutL (optB o d ++ y) 0 8 = magicB ∧ unbe (cutL (optB o d ++ y) 8 12) = o ∧ unbe (cutL (optB o d ++ y) 12 16) = d.length ∧ cutL (optB o d ++ y) 16 (16 + d.length) = d ∧ (optB o d ++ y).drop (16 + d.length) = y := by
  have e : optB o d ++ y = (magicB ++ beN o 4 ++ beN d.length 4) ++ (d ++ y) := by unfold optB; simp only [List.append_assoc]
  have hl : (magicB ++ beN o 4 ++ beN d.length 4).length = 16 := rfl
  have c : ∀ {lo hi : Nat}, hi ≤ 16 → cutL (optB o d ++ y) lo hi = cutL (magicB ++ beN o 4 ++ beN d.length 4) lo hi := fun {lo hi} h => by rw [e, cutL_app (by rw [hl]; exact h)]
  have p4 : (256 : Nat) ^ 4 = 4294967296 := rfl
  refine ⟨by rw [c (by decide)]; rfl, ?_, ?_, ?_, ?_⟩
  · rw [c (by decide), show cutL (magicB ++ beN o 4 ++ beN d.length 4) 8 12 = beN o 4 from rfl, unbe_be (by rw [p4]; exact ho)]
  · rw [c (by decide), show cutL (magicB ++ beN o 4 ++ beN d.length 4) 12 16 = beN d.length 4 from rfl, unbe_be (by rw [p4]; exact hd)]
  · unfold cutL
    rw [e, List.drop_append_of_le_length (by rw [hl]; exact Nat.le_refl _), List.drop_eq_nil_of_le (by rw [hl]; exact Nat.le_refl _), List.nil_append, List.take_append_of_le_length (by omega), List.take_of_length_le (by omega)]
  · rw [List.drop_append_of_le_length (by rw [optB_len]; exact Nat.le_refl _), List.drop_eq_nil_of_le (by rw [optB_len]; exact Nat.le_refl _), List.nil_append]
theorem Pure.optGood (o : Nat) (d y : List UInt8) (ho : o < 4294967296) (hd : d.length ≤ 4096) : badHead (optB o d ++ y) = false := by
  obtain ⟨e1, e2, e3, _⟩ := Pure.cutOpt o d y ho (by omega)
  unfold badHead
  rw [e1, e3, decide_eq_true rfl, decide_eq_false (by omega)]; rfl
theorem Pure.add_ba (a b : List UInt8) (h : a.length + b.length ≤ 1000000) : asT (strA .add (⟨a.toArray⟩ : ByteArray) ⟨b.toArray⟩) = some ⟨(a ++ b).toArray⟩ := by
  have e : (⟨a.toArray⟩ : ByteArray) ++ ⟨b.toArray⟩ = ⟨(a ++ b).toArray⟩ := by
    apply ByteArray.ext
    simp
  show asT (cond (Nat.blt (a.toArray.size + b.toArray.size) 9223372036854775807) (some (.string ((⟨a.toArray⟩ : ByteArray) ++ ⟨b.toArray⟩))) none) = _
  rw [cond_eta _ _ _ (show Nat.blt (a.toArray.size + b.toArray.size) 9223372036854775807 = true from Nat.ble_eq_true_of_le (by simp; omega)), e]; rfl
theorem Pure.wf8 {n : Int} (h : (Lit.int .u8 n).wf = true) : ∃ m : UInt8, n = Int.ofNat m.toNat := by
  unfold Lit.wf at h
  simp only [Bool.and_eq_true, decide_eq_true_eq] at h
  have h0 : (0 : Int) ≤ n := h.1
  have h1 : n ≤ 255 := h.2
  exact ⟨UInt8.ofNat n.toNat, by simp; omega⟩
theorem Pure.asBytes : ∀ l : List Int, (∀ n ∈ l, (Lit.int .u8 n).wf = true) → ∃ x : List UInt8, l.map (fun n => Value.int .u8 n) = byt x ∧ x.length = l.length
  | [], _ => ⟨[], rfl, rfl⟩
  | n :: l, h => by
    obtain ⟨m, rfl⟩ := Pure.wf8 (h n List.mem_cons_self)
    obtain ⟨x, e1, e2⟩ := Pure.asBytes l fun n hn => h n (List.mem_cons_of_mem _ hn)
    exact ⟨m :: x, by rw [List.map_cons, e1]; rfl, by rw [List.length_cons, List.length_cons, e2]⟩
/-! ### exports -/
def Pure.exV (nm : List UInt8) (se : Int) (ro : Bool) : List Value := [.string (ba nm), .int .i64 se, .bool ro]
theorem Pure.bindEx {β : Type} (n : ByteArray) (se : Int) (ro : Bool) (f : FT [.str, .int .i64, .bool] → Option β) : (asSt [.str, (.int .i64), .bool] (some (Value.agg #[.string n, .int .i64 se, .bool ro]))).bind f = f (show FT [.str, .int .i64, .bool] from ((n, se, ro) : ByteArray × Int × Bool)) := rfl
theorem Pure.isEx {h : H} {b e es : Nat} {n : List UInt8} {se : Int} {ro : Bool} (I : Is h b e es (Pure.exV n se ro)) : lda 3 h (some ⟨b, 0, none⟩) = some (.agg #[.string (ba n), .int .i64 se, .bool ro]) := by
  rw [I.lda (o := 0) (n := 3) (Nat.le_refl _)]; rfl
theorem Pure.find_f (k : Nat) (hk : 1000 < k) {h : H} (w : WF h) {b : Nat} {nm : List UInt8} {se : Int} {ro : Bool} (I : Is h b 35 3 (Pure.exV nm se ro)) :
    ∃ h', hand_find.f k ⟨some ⟨b, 0, none⟩, 1, 1⟩ (ba nm) h = some (((ba nm, se, ro), true), h') ∧ Ch0 h h' := by
  unfold hand_find.f
  obtain ⟨z1, z2, z3⟩ := newR_ok w 9 1 [Value.string (ba nm)]
  generalize newR h 9 1 [Value.string (ba nm)] = g0 at z1 z2 z3 ⊢
  obtain ⟨y1, y2, y3⟩ := newR_ok z1.wf 35 3 [Value.string (⟨#[]⟩ : ByteArray), Value.int .i64 (0 : Int), Value.bool false]
  generalize newR g0 35 3 [Value.string (⟨#[]⟩ : ByteArray), Value.int .i64 (0 : Int), Value.bool false] = g1 at y1 y2 y3 ⊢
  have c01 := z1.then y1
  have I1 := I.stay w c01
  have z4 := z3.stay z1.wf y1
  obtain ⟨x1, x2, x3⟩ := newR_ok y1.wf 35 3 [Value.string (ba nm), Value.int .i64 se, Value.bool ro]
  have ff : hand_find_1.f k (ba nm, se, ro) (some ⟨h.next, 0, none⟩) g1 = some (true, newR g1 35 3 [Value.string (ba nm), Value.int .i64 se, Value.bool ro]) := by
    unfold hand_find_1.f
    dsimp only
    rw [x3.ldc, (z4.stay y1.wf x1).ldc]
    show some ((ba nm).toList == (ba nm).toList, _) = _
    rw [beq_self_eq_true]
  have fi : slices_IndexFunc_hand_Export_hand_Export_hand_find_1.f k ⟨some ⟨b, 0, none⟩, 1, 1⟩ (some ⟨h.next, 0, none⟩) g1 = some ((0 : Int), newR g1 35 3 [Value.string (ba nm), Value.int .i64 se, Value.bool ro]) := by
    unfold slices_IndexFunc_hand_Export_hand_Export_hand_find_1.f
    obtain ⟨m, rfl⟩ : ∃ m, k = m + 1 := ⟨k - 1, by omega⟩
    rw [slices_IndexFunc_hand_Export_hand_Export_hand_find_1.l0_succ]
    rw [show decide ((0 : Int) < Int.ofNat 1) = true from rfl, cond_true]
    rw [show ixs 3 (some ⟨b, 0, none⟩) 1 (0 : Int) = some (.pointer (some ⟨b, 0, none⟩)) from rfl]
    simp only [asP_ptr, Option.bind_some]
    rw [Pure.isEx I1, Pure.bindEx]
    dsimp only
    rw [ff]; rfl
  rw [fi]
  simp only [Option.bind_some]
  rw [show decide ((0 : Int) < 0) = false from rfl, cond_false]
  rw [show ixs 3 (some ⟨b, 0, none⟩) 1 (0 : Int) = some (.pointer (some ⟨b, 0, none⟩)) from rfl]
  simp only [asP_ptr, Option.bind_some]
  rw [Pure.isEx (I1.stay y1.wf x1), Pure.bindEx]
  dsimp only
  have y4 := y3.stay y1.wf x1
  obtain ⟨h', u1, u2, u3, u4⟩ := Is.whole x1.wf y4 rfl (Pure.exV nm se ro) rfl rfl
  rw [show [Value.string (ba nm), Value.int .i64 se, Value.bool ro] = Pure.exV nm se ro from rfl] at u1 ⊢
  rw [u1]
  simp only [Option.bind_some]
  rw [Pure.isEx u4, Pure.bindEx]
  exact ⟨h', rfl, Ch0.at (c01.then x1) u2 z1.le⟩
def Pure.about (se : Int) (ro : Bool) : List UInt8 := beN (se * 16).toNat 8 ++ beN (if ro then 111 else 109) 2
theorem Pure.flags_f (k : Nat) {h : H} (w : WF h) (nm : List UInt8) (se : Int) (ro : Bool) : ∃ h', hand_Flags.f k (ba nm, se, ro) h = some (Int.ofNat (if ro then 111 else 109), h') ∧ Ch0 h h' := by
  unfold hand_Flags.f
  dsimp only
  obtain ⟨z1, z2, z3⟩ := newR_ok w 35 3 [Value.string (ba nm), Value.int .i64 se, Value.bool ro]
  rw [z3.ldc]
  refine ⟨_, ?_, z1⟩
  cases ro <;> rfl
theorem Pure.sized_f (k : Nat) (hk : 1000 < k) {h : H} (w : WF h) (nm : List UInt8) (se : Int) (ro : Bool) (h0 : 0 ≤ se) (h1 : se ≤ 5000) :
    ∃ s' h', hand_sized.f k (ba nm, se, ro) h = some (s', h') ∧ Ch0 h h' ∧ Ow 5 1 h' s' (byt (Pure.about se ro)) ∧ ∀ b, SlB s' b → h.next ≤ b := by
  unfold hand_sized.f
  dsimp only
  rw [show [Value.string (ba nm), Value.int .i64 se, Value.bool ro] = Pure.exV nm se ro from rfl]
  obtain ⟨z1, z2, z3⟩ := newR_ok w 35 3 (Pure.exV nm se ro)
  generalize newR h 35 3 (Pure.exV nm se ro) = g0 at z1 z2 z3 ⊢
  rw [z3.ldc, show (Pure.exV nm se ro)[1]? = some (.int .i64 se) from rfl]
  simp only [asI_int, Option.bind_some]
  rw [wrap_in (n := se * 16) (by omega) (by omega)]
  obtain ⟨s1, g1, a1, a2, a3, a4⟩ := cbytes_f k hk (se * 16).toNat 8 (by decide) z1.wf (se * 16) (nn _ (by omega)) 8 rfl
  rw [a1]
  simp only [Option.bind_some]
  rw [Pure.isEx (z3.stay z1.wf a2), Pure.bindEx]
  dsimp only
  obtain ⟨g2, b1, b2⟩ := Pure.flags_f k a2.wf nm se ro
  rw [b1]
  simp only [Option.bind_some]
  obtain ⟨s3, g3, c1, c2, c3, c4⟩ := cbytes_f k hk (if ro then 111 else 109) 2 (by decide) b2.wf _ rfl 2 rfl
  rw [c1]
  simp only [Option.bind_some]
  let ps : Parts := [(s1, beN (se * 16).toNat 8), (s3, beN (if ro then 111 else 109) 2)]
  rw [show [Value.slice s1.a s1.n s1.c, Value.slice s3.a s3.n s3.c] = ps.map fun p => slv p.1 from rfl]
  obtain ⟨y1, y2, y3⟩ := newR_ok c2.wf 25 1 (ps.map fun p => slv p.1)
  have hps : PartsR g3 ps := by
    intro q hq
    simp only [ps, List.mem_cons, List.not_mem_nil, or_false] at hq
    rcases hq with rfl | rfl
    · exact a3.slr.stay a2.wf (b2.then c2)
    · exact c3.slr
  obtain ⟨s', h', v1, v2, v3, v4⟩ := concat_f k hk y1.wf (ps := ps) (SlR.of_is y3 (n := 2) rfl (by unfold unk; omega)) (hps.stay c2.wf y1) (by show 2 < 1000; decide) (by
    show (beN (se * 16).toNat 8).length + ((beN (if ro then 111 else 109) 2).length + 0) ≤ _
    simp only [beN_len]; omega)
  rw [v1]
  simp only [Option.bind_some]
  rw [same1_of (a2.keep h.next (by omega) fun f => f), Bool.true_and, cond_true]
  have l1 := a2.le
  have l2 := b2.le
  have l3 := c2.le
  refine ⟨s', h', rfl, (((z1.then a2).then (b2.then c2)).then y1).then v2, ?_, fun b hb => by have := v4 b hb; omega⟩
  have : joined ps = Pure.about se ro := by
    unfold joined Pure.about
    simp only [ps, List.map_cons, List.map_nil, List.flatten_cons, List.flatten_nil, List.append_nil]
  rw [← this]; exact v3
theorem Pure.choose_f (k : Nat) {h : H} (w : WF h) {p : Nat} {sl : Sl} {st : Hs} (I : Is h p 47 6 (hsV sl st)) (nm : List UInt8) : ∃ h', hand_Hand_choose.f k (some ⟨p, 0, none⟩) (ba nm) h = some ((), h') ∧ Ch (fun b => b = p) h h' ∧ Is h' p 47 6 (hsV sl ⟨st.left, st.gr, st.nz, nm, true, st.en⟩) := by
  unfold hand_Hand_choose.f
  simp only [nilA, asP_ptr, Option.bind_some, fadd]
  obtain ⟨h1, c1, c2, c3⟩ := HdR.put w I 3 (by decide) (.string (ba nm)) rfl
  rw [show (0 + 3 : Nat) = 3 from rfl, c1]
  simp only [Option.bind_some]
  obtain ⟨h2, d1, d2, d3, d4⟩ := c3.set c2.wf 4 (.bool true) (by show 4 < 6; decide) rfl
  rw [show (0 + 4 : Nat) = 4 from rfl, d1]
  exact ⟨h2, rfl, c2.trans d2 fun _ _ f => f, d4⟩
/-- a name's number -/
theorem Pure.name_f (k : Nat) (which : Int) (h : H) : ∃ nm : List UInt8, corbelhand_Name.f k which h = some (ba nm, h) ∧ nm.length ≤ 4 := by
  unfold corbelhand_Name.f
  rw [pick_f k _ 7 h (by decide) (by decide)]
  simp only [Option.bind_some]
  have h0 := Int.emod_nonneg which (show (7 : Int) ≠ 0 by decide)
  have h1 := Int.emod_lt_of_pos which (show (0 : Int) < 7 by decide)
  generalize which % 7 = j at h0 h1
  have : j = 0 ∨ j = 1 ∨ j = 2 ∨ j = 3 ∨ j = 4 ∨ j = 5 ∨ j = 6 := by omega
  rcases this with rfl | rfl | rfl | rfl | rfl | rfl | rfl
  · exact ⟨[97], rfl, by decide⟩
  · exact ⟨[98], rfl, by decide⟩
  · exact ⟨[99], rfl, by decide⟩
  · exact ⟨[118, 111, 108, 49], rfl, by decide⟩
  · exact ⟨[115, 110, 97, 112], rfl, by decide⟩
  · exact ⟨[122, 122, 57], rfl, by decide⟩
  · exact ⟨[120], rfl, by decide⟩
theorem Pure.apz_ok {h : H} (w : WF h) {s : Sl} {x : List UInt8} (r : Ow 5 1 h s (byt x)) (n : Nat) (hb : x.length + n ≤ 140737488355328) :
    ∃ s' h', asS2 (apz 5 1 1 [Value.int .u8 (0 : Int)] (.slice s.a s.n s.c) (Int.ofNat n) h) = some (s', h') ∧ Ch (SlB s) h h' ∧ Ow 5 1 h' s' (byt (x ++ List.replicate n 0)) ∧ ∀ b, SlB s' b → SlB s b ∨ h.next ≤ b := by
  have hz : (List.range (n * 1)).map (zAt [Value.int .u8 (0 : Int)]) = byt (List.replicate n 0) := by
    rw [← byt_rep]
    apply List.ext_getElem?
    intro i
    rw [List.getElem?_map, List.getElem?_replicate, Nat.mul_one]
    by_cases c : i < n
    · rw [List.getElem?_range c, if_pos c]
      simp [zAt, Nat.mod_one]
    · rw [List.getElem?_eq_none (by simpa using c), if_neg c]; rfl
  have hs := r.slr.n_byt
  obtain ⟨s', h', e1, e2, e3, e4, e5⟩ := apN_ok (by_ := 1) w r (by decide) (n := n) (new := byt (List.replicate n 0)) (by rw [hs]; omega) (byt_one _) (by rw [byt_len, List.length_replicate]; omega)
  have e0 : apz 5 1 1 [Value.int .u8 (0 : Int)] (.slice s.a s.n s.c) (Int.ofNat n) h = apN 5 1 1 (.slice s.a s.n s.c) n (byt (List.replicate n 0)) h := by
    show cond (Nat.ble (n * 1) 140737488355328 && Nat.ble n 140737488355328 && Nat.beq 1 1) (apN 5 1 1 (.slice s.a s.n s.c) n ((List.range (n * 1)).map (zAt [Value.int .u8 (0 : Int)])) h) none = _
    rw [cond_eta _ _ _ (by simp only [Bool.and_eq_true, Nat.ble_eq]; exact ⟨⟨by omega, by omega⟩, rfl⟩), hz]
  rw [e0, e1]
  exact ⟨s', h', rfl, e2, by rw [← byt_app]; exact e3, fun b hb => (e5 b hb).imp id fun f => f.1⟩
theorem Pure.named_f (k : Nat) (hk : 1000 < k) {h : H} (w : WF h) {p b : Nat} {st : Hs} (r : HdR h p st) {nm : List UInt8} {se : Int} {ro : Bool} (I : Is h b 35 3 (Pure.exV nm se ro)) (h0 : 0 ≤ se) (h1 : se ≤ 5000) :
    ∃ s' h', hand_Hand_named.f k (some ⟨p, 0, none⟩) ⟨some ⟨b, 0, none⟩, 1, 1⟩ (ba nm) h = some (s', h') ∧ Ch (fun b => b = p) h h' ∧ HdR h' p ⟨st.left, st.gr, st.nz, nm, true, st.en⟩ ∧ Ow 5 1 h' s' (byt (Pure.about se ro ++ if st.nz then [] else List.replicate 124 0)) ∧ ∀ b, SlB s' b → h.next ≤ b := by
  unfold hand_Hand_named.f
  obtain ⟨h2, a1, a2⟩ := Pure.find_f k hk w I
  rw [a1]
  simp only [Option.bind_some]
  rw [show [Value.string (ba nm), Value.int .i64 se, Value.bool ro] = Pure.exV nm se ro from rfl]
  obtain ⟨h3, b1, b2, b3, b4⟩ := box_ok a2.wf 35 3 [Value.string (⟨#[]⟩ : ByteArray), Value.int .i64 (0 : Int), Value.bool false] (Pure.exV nm se ro) rfl rfl rfl
  rw [b1]
  simp only [Option.bind_some, Bool.not_true, cond_false]
  have c3 := a2.then b2
  have pl := r.lt w
  obtain ⟨sl, J0, q1, q2⟩ := r.ex
  obtain ⟨h4, d1, d2, d3⟩ := Pure.choose_f k c3.wf (J0.stay w c3) nm
  rw [d1]
  simp only [Option.bind_some]
  have l2 := a2.le
  have B4 := b4.keep (d2.keep h2.next (by omega) (by omega))
  rw [Pure.isEx B4, Pure.bindEx]
  dsimp only
  obtain ⟨s5, h5, e1, e2, e3, e4⟩ := Pure.sized_f k hk d2.wf nm se ro h0 h1
  rw [e1]
  simp only [nilA, asP_ptr, Option.bind_some, fadd]
  have J := d3.stay d2.wf e2
  have C5 : Ch (fun b => b = p) h h5 := ((c3.mono fun _ _ f => f.elim).trans d2 fun _ _ f => f).trans e2 fun _ _ f => f.elim
  have Q5 : SlR 1 h5 sl (byt st.left) := q1.keep fun x hx => C5.keep x (q1.blk w hx) fun f => q2 (by subst f; exact hx)
  rw [J.ldc, show (hsV sl ⟨st.left, st.gr, st.nz, nm, true, st.en⟩)[0 + 2]? = some (.bool st.nz) from rfl]
  simp only [asB, Option.bind_some]
  have l3 := c3.le
  have l4 := d2.le
  cases hz : st.nz with
  | true =>
    rw [if_pos rfl, List.append_nil]
    rw [hz] at J
    exact ⟨s5, h5, rfl, C5, ⟨sl, J, Q5, q2⟩, e3, fun x hx => by have := e4 x hx; omega⟩
  | false =>
    rw [hz] at J
    simp only [Bool.not_false, cond_true]
    obtain ⟨s6, h6, f1, f2, f3, f4⟩ := Pure.apz_ok e2.wf e3 124 (by unfold Pure.about; simp only [List.length_append, beN_len]; omega)
    rw [show (124 : Int) = Int.ofNat 124 from rfl, f1]
    simp only [Option.bind_some]
    have ne : ∀ x, SlB s5 x → h.next ≤ x := fun x hx => by have := e4 x hx; omega
    have l5 := C5.le
    exact ⟨s6, h6, rfl, C5.trans f2 fun x hx f => by have := ne x f; omega, ⟨sl, J.keep (f2.keep p (by omega) fun f => by have := ne p f; omega), Q5.keep fun x hx => f2.keep x (by have := q1.blk w hx; omega) fun f => by have := ne x f; have := q1.blk w hx; omega, q2⟩, f3, fun x hx => (f4 x hx).elim (ne x) fun f => by omega⟩
def Pure.goB (nm : List UInt8) : List UInt8 := beN nm.length 4 ++ nm ++ [0, 0]
theorem Pure.oneIs {h : H} {b e es : Nat} {v : Value} (I : Is h b e es [v]) : oneCell h b = some v := by
  obtain ⟨B, hB, k2, k3, k4, k5⟩ := I.rowAt
  unfold oneCell
  rw [hB]
  exact k5 0
theorem Pure.asked_f (k : Nat) (hk : 1000 < k) {h : H} (w : WF h) {s : Sl} {nm : List UInt8} (hn : nm.length ≤ 4) (r : SlR 1 h s (byt (Pure.goB nm))) :
    ∃ h', hand_asked.f k s h = some ((ba nm, ⟨none, 0, 0⟩, true), h') ∧ Ch0 h h' := by
  unfold hand_asked.f
  have gl : (Pure.goB nm).length = 6 + nm.length := by unfold Pure.goB; simp only [List.length_append, beN_len, List.length_cons, List.length_nil]; omega
  have sn : s.n = 6 + nm.length := by rw [r.n_byt, gl]
  rw [sn, decide_eq_false (show ¬ Int.ofNat (6 + nm.length) < (6 : Int) by simp only [Int.ofNat_eq_natCast]; omega), cond_false, ← sn]
  obtain ⟨s1, a1, a2, a3, a4⟩ := subb_ok r (lo := 0) (hi := 4) (by decide) (by omega) (xlo := none) (xhi := some (Int.ofNat 4)) rfl rfl
  rw [show some (4 : Int) = some (Int.ofNat 4) from rfl, a1]
  simp only [asS_slv, Option.bind_some]
  have g1 : ((Pure.goB nm).drop 0).take (4 - 0) = beN nm.length 4 := by
    unfold Pure.goB
    rw [List.drop_zero, List.append_assoc, List.take_append_of_le_length (by rw [beN_len]; exact Nat.le_refl _), List.take_of_length_le (by rw [beN_len]; exact Nat.le_refl _)]
  rw [g1] at a3
  rw [hnumber_f k hk a3 (by rw [beN_len]; decide), unbe_be (by have : (256 : Nat) ^ 4 = 4294967296 := rfl; omega)]
  simp only [Option.bind_some]
  rw [sn, wrap_in (n := Int.ofNat (6 + nm.length) - 6) (by simp only [Int.ofNat_eq_natCast]; omega) (by simp only [Int.ofNat_eq_natCast]; omega), decide_eq_false (show ¬ Int.ofNat nm.length > Int.ofNat (6 + nm.length) - 6 by simp only [Int.ofNat_eq_natCast]; omega), cond_false, ← sn]
  rw [wrap_in (n := (4 : Int) + Int.ofNat nm.length) (by simp only [Int.ofNat_eq_natCast]; omega) (by simp only [Int.ofNat_eq_natCast]; omega), show (4 : Int) + Int.ofNat nm.length = Int.ofNat (4 + nm.length) from rfl]
  obtain ⟨s2, b1, b2, b3, b4⟩ := subb_ok r (lo := 4) (hi := 4 + nm.length) (by omega) (by omega) (xlo := some (Int.ofNat 4)) (xhi := some (Int.ofNat (4 + nm.length))) rfl rfl
  rw [b1]
  simp only [asS_slv, Option.bind_some]
  have gd : (Pure.goB nm).drop 4 = nm ++ [0, 0] := by
    unfold Pure.goB
    rw [List.append_assoc, List.drop_append_of_le_length (by rw [beN_len]; exact Nat.le_refl _), List.drop_eq_nil_of_le (by rw [beN_len]; exact Nat.le_refl _), List.nil_append]
  have g2 : ((Pure.goB nm).drop 4).take (4 + nm.length - 4) = nm := by
    rw [gd, List.take_append_of_le_length (by omega), List.take_of_length_le (by omega)]
  rw [g2] at b3
  rw [txt_sl b3]
  simp only [Option.bind_some]
  obtain ⟨s3, c1, c2, c3, c4⟩ := subb_ok r (lo := 4 + nm.length) (hi := 6 + nm.length) (by omega) (by omega) (xlo := some (Int.ofNat (4 + nm.length))) (xhi := none) rfl (by rw [sn]; rfl)
  rw [c1]
  simp only [asS_slv, Option.bind_some]
  have g3 : ((Pure.goB nm).drop (4 + nm.length)).take (6 + nm.length - (4 + nm.length)) = [0, 0] := by
    rw [← List.drop_drop, gd, List.drop_append_of_le_length (Nat.le_refl _), List.drop_eq_nil_of_le (Nat.le_refl _), List.nil_append, show 6 + nm.length - (4 + nm.length) = 2 by omega]; rfl
  rw [g3] at c3
  have s3n : s3.n = 2 := by rw [c3.n_byt]; rfl
  obtain ⟨s4, d1, d2, d3, d4⟩ := subb_ok c3 (lo := 0) (hi := 2) (by decide) (by decide) (xlo := none) (xhi := some (Int.ofNat 2)) rfl rfl
  rw [show some (2 : Int) = some (Int.ofNat 2) from rfl, d1]
  simp only [asS_slv, Option.bind_some]
  rw [hnumber_f k hk d3 (by decide)]
  have u0 : unbe ((([0, 0] : List UInt8).drop 0).take (2 - 0)) = 0 := by
    unfold unbe
    simp [unbeA]
  rw [u0]
  simp only [Option.bind_some]
  rw [show (Int.ofNat s3.n != wrapA .i64 ((2 : Int) + wrapA .i64 ((2 : Int) * Int.ofNat 0))) = false by rw [s3n]; rfl, cond_false]
  obtain ⟨s5, e1, e2, e3, e4⟩ := subb_ok c3 (lo := 2) (hi := 2) (by decide) (by decide) (xlo := some (Int.ofNat 2)) (xhi := none) rfl (by rw [s3n]; rfl)
  rw [e1]
  simp only [asS_slv, Option.bind_some]
  obtain ⟨z1, z2, z3⟩ := newR_ok w 70 1 [slv ⟨none, 0, 0⟩]
  rw [show [Value.slice none 0 0] = [slv ⟨none, 0, 0⟩] from rfl]
  generalize newR h 70 1 [slv ⟨none, 0, 0⟩] = g0 at z1 z2 z3 ⊢
  unfold slices_Chunk_byte_byte.f
  rw [show [Value.slice s5.a s5.n s5.c] = [slv s5] from rfl]
  obtain ⟨y1, y2, y3⟩ := newR_ok z1.wf 25 1 [slv s5]
  generalize newR g0 25 1 [slv s5] = g1 at y1 y2 y3 ⊢
  obtain ⟨x1, x2, x3⟩ := newR_ok y1.wf 3 1 [Value.int .i64 (2 : Int)]
  generalize newR g1 3 1 [Value.int .i64 (2 : Int)] = g2 at x1 x2 x3 ⊢
  rw [x3.ldc]
  simp only [List.getElem?_cons_zero, asI_int, Option.bind_some]
  rw [show decide ((2 : Int) < 1) = false from rfl]
  simp only [cond_false, Option.bind_some]
  have i1 : chInfo g2 (some ⟨g0.next, 0, none⟩, some ⟨g1.next, 0, none⟩) = some ⟨g0.next, g1.next, s5.a, s5.n, s5.c, 2⟩ := by
    unfold chInfo
    simp only [Pure.oneIs (y3.stay y1.wf x1), Pure.oneIs x3]
    rfl
  rw [i1]
  simp only [Option.bind_some]
  have e2 : s5.n = 0 := e2
  unfold chGo
  rw [e2, show Nat.beq 0 0 = true from rfl, cond_true]
  simp only [Option.bind_some]
  rw [((z3.stay z1.wf y1).stay y1.wf x1).ldc]
  simp only [List.getElem?_cons_zero, asS_slv, Option.bind_some]
  exact ⟨g2, rfl, (z1.then y1).then x1⟩
theorem Pure.inform_f (k : Nat) (hk : 1000 < k) {h : H} (w : WF h) {p b : Nat} {st : Hs} (r : HdR h p st) {nm : List UInt8} (hn : nm.length ≤ 4) {se : Int} {ro : Bool} (I : Is h b 35 3 (Pure.exV nm se ro)) (h0 : 0 ≤ se) (h1 : se ≤ 5000) {s : Sl} (rs : SlR 1 h s (byt (Pure.goB nm))) :
    ∃ s' h', hand_Hand_inform.f k (some ⟨p, 0, none⟩) (7 : Int) ⟨some ⟨b, 0, none⟩, 1, 1⟩ s h = some (s', h') ∧ Ch (fun b => b = p) h h' ∧ HdR h' p ⟨st.left, st.gr, st.nz, nm, true, st.en⟩ ∧ Ow 5 1 h' s' (byt (replyB 7 3 ([0, 0] ++ Pure.about se ro) ++ replyB 7 1 [])) ∧ ∀ b, SlB s' b → h.next ≤ b := by
  unfold hand_Hand_inform.f
  obtain ⟨g1, a1, a2⟩ := Pure.asked_f k hk w hn rs
  rw [a1]
  simp only [Option.bind_some, Bool.not_true, cond_false]
  obtain ⟨g2, b1, b2⟩ := Pure.find_f k hk a2.wf (I.stay w a2)
  rw [b1]
  simp only [Option.bind_some]
  rw [show [Value.string (ba nm), Value.int .i64 se, Value.bool ro] = Pure.exV nm se ro from rfl]
  obtain ⟨g3, c1, c2, c3, c4⟩ := box_ok b2.wf 35 3 [Value.string (⟨#[]⟩ : ByteArray), Value.int .i64 (0 : Int), Value.bool false] (Pure.exV nm se ro) rfl rfl rfl
  rw [c1]
  simp only [Option.bind_some, Bool.not_true, cond_false]
  obtain ⟨s4, g4, d1, d2, d3, d4⟩ := cbytes_f k hk 0 2 (by decide) c2.wf 0 rfl 2 rfl
  rw [d1]
  simp only [Option.bind_some]
  rw [Pure.isEx (c4.stay c2.wf d2), Pure.bindEx]
  dsimp only
  obtain ⟨s5, g5, e1, e2, e3, e4⟩ := Pure.sized_f k hk d2.wf nm se ro h0 h1
  rw [e1]
  simp only [Option.bind_some]
  let ps : Parts := [(s4, beN 0 2), (s5, Pure.about se ro)]
  rw [show [Value.slice s4.a s4.n s4.c, Value.slice s5.a s5.n s5.c] = ps.map fun p => slv p.1 from rfl]
  obtain ⟨y1, y2, y3⟩ := newR_ok e2.wf 25 1 (ps.map fun p => slv p.1)
  have hps : PartsR g5 ps := by
    intro q hq
    simp only [ps, List.mem_cons, List.not_mem_nil, or_false] at hq
    rcases hq with rfl | rfl
    · exact d3.slr.stay d2.wf e2
    · exact e3.slr
  have al : (Pure.about se ro).length = 10 := by unfold Pure.about; simp only [List.length_append, beN_len]
  obtain ⟨s6, g6, v1, v2, v3, v4⟩ := concat_f k hk y1.wf (ps := ps) (SlR.of_is y3 (n := 2) rfl (by unfold unk; omega)) (hps.stay e2.wf y1) (by show 2 < 1000; decide) (by
    show (beN 0 2).length + ((Pure.about se ro).length + 0) ≤ _
    rw [beN_len, al]; omega)
  rw [v1]
  simp only [Option.bind_some]
  have hj : joined ps = [0, 0] ++ Pure.about se ro := by
    unfold joined
    simp only [ps, List.map_cons, List.map_nil, List.flatten_cons, List.flatten_nil, List.append_nil]
    rfl
  rw [hj] at v3
  obtain ⟨s7, g7, f1, f2, f3, f4⟩ := reply_f k hk v2.wf 7 3 7 3 rfl rfl v3.slr (by rw [List.length_append, al]; decide)
  rw [f1]
  simp only [Option.bind_some]
  rw [same1_of (d2.keep g2.next (by omega) fun f => f), Bool.true_and, cond_true]
  have ci : slices_Contains_int_int.f k ⟨none, 0, 0⟩ (3 : Int) g7 = some (false, g7) := by
    unfold slices_Contains_int_int.f slices_Index_int_int.f
    obtain ⟨m, rfl⟩ : ∃ m, k = m + 1 := ⟨k - 1, by omega⟩
    rw [slices_Index_int_int.l0_succ]; rfl
  rw [ci]
  simp only [Option.bind_some, cond_false]
  rw [show ((7 : Int) == 7) = true from rfl, cond_true]
  have c07 : Ch0 h g7 := (((((a2.then b2).then c2).then d2).then e2).then (y1.then v2)).then f2
  have pl := r.lt w
  obtain ⟨sl, J0, q1, q2⟩ := r.ex
  obtain ⟨g8, i1, i2, i3⟩ := Pure.choose_f k c07.wf (J0.stay w c07) nm
  rw [i1]
  simp only [Option.bind_some]
  obtain ⟨s9, g9, j1, j2, j3, j4⟩ := reply_f k hk i2.wf 7 1 7 1 rfl rfl (s := ⟨none, 0, 0⟩) (d := []) (.inl ⟨rfl, .inl rfl⟩) (by decide)
  rw [j1]
  simp only [Option.bind_some]
  have l6 : h.next ≤ g6.next := (((((a2.then b2).then c2).then d2).then e2).then (y1.then v2)).le
  have f7 : ∀ x, SlB s7 x → h.next ≤ x := fun x hx => by have := f4 x hx; omega
  have J9 := i3.stay i2.wf j2
  have k9 := (f3.keep fun x hx => i2.keep x (f3.lt f2.wf hx) (by have := f7 x hx; omega)).stay i2.wf j2
  obtain ⟨s10, g10, m1, m2, m3, m4⟩ := app_b j2.wf k9 j3.slr (by unfold replyB; simp only [List.length_append, beN_len, al, List.length_cons, List.length_nil]; omega)
  rw [m1]
  have C9 : Ch (fun b => b = p) h g9 := ((c07.mono fun _ _ f => f.elim).trans i2 fun _ _ f => f).trans j2 fun _ _ f => f.elim
  have l9 := C9.le
  have Q9 : SlR 1 g9 sl (byt st.left) := q1.keep fun x hx => C9.keep x (q1.blk w hx) fun f => q2 (by subst f; exact hx)
  exact ⟨s10, g10, rfl, C9.trans m2 fun x hx f => by have := f7 x f; omega, ⟨sl, J9.keep (m2.keep p (by omega) fun f => by have := f7 p f; omega), Q9.keep fun x hx => m2.keep x (by have := q1.blk w hx; omega) fun f => by have := f7 x f; have := q1.blk w hx; omega, q2⟩, m3, fun x hx => (m4 x hx).elim (f7 x) fun f => by omega⟩
/-! ### the bytes of a client -/
theorem Pure.feedTail (k : Nat) {h : H} (w : WF h) {p : Nat} {st : Hs} (r : HdR h p st) (he : st.en = false) (hl : st.left.length ≤ 140737488355328) (out : Sl) {l : List UInt8} (ro : Ow 5 1 h out (byt l)) (hob : ∀ b, SlB out b → b ≠ p) :
    ∃ s' h', ((asP (nilA (Value.pointer (some ⟨p, 0, none⟩)))).bind fun p32 =>
    (asP (fadd 0 p32)).bind fun p33 =>
    (asS (ldc h p33)).bind fun s34 =>
    (asP (nilA (Value.pointer (some ⟨p, 0, none⟩)))).bind fun p35 =>
    (asP (fadd 0 p35)).bind fun p36 =>
    (stv 1 h p36 [(Value.slice none 0 0)]).bind fun q37 =>
    (asP (nilA (Value.pointer (some ⟨p, 0, none⟩)))).bind fun p38 =>
    (asP (fadd 5 p38)).bind fun p39 =>
    (asB (ldc q37.2 p39)).bind fun b40 =>
    cond b40
      (some ((out, (⟨none, 0, 0⟩ : Sl)), q37.2))
      ((slices_Clone_byte_byte.f k s34 q37.2).bind fun q41 =>
    some ((out, q41.1), q41.2))) = some ((out, s'), h') ∧ Ch (fun b => b = p) h h' ∧ HdR h' p { st with left := [] } ∧ Ow 5 1 h' out (byt l) ∧ Ow 5 1 h' s' (byt st.left) := by
  obtain ⟨sl, I, r1, r2⟩ := r.ex
  simp only [nilA, asP_ptr, Option.bind_some, fadd, I.ldc]
  rw [show (hsV sl st)[0 + 0]? = some (slv sl) from rfl]
  simp only [asS_slv, Option.bind_some]
  obtain ⟨h3, c1, c2, c3⟩ := HdR.put w I 0 (by decide) (slv ⟨none, 0, 0⟩) rfl
  rw [show [Value.slice none 0 0] = [slv ⟨none, 0, 0⟩] from rfl, show (0 + 0 : Nat) = 0 from rfl, c1]
  simp only [Option.bind_some, c3.ldc]
  rw [show ((hsV sl st).set 0 (slv ⟨none, 0, 0⟩))[0 + 5]? = some (.bool st.en) from rfl, he]
  simp only [asB, Option.bind_some, cond_false]
  have r3 := r1.keep (h' := h3) fun b hb => c2.keep b (r1.blk w hb) fun f => r2 (by subst f; exact hb)
  obtain ⟨s', h4, d1, d2, d3, d4, d5⟩ := clone_f k c2.wf r3 hl
  rw [d1]
  refine ⟨s', h4, rfl, c2.trans d2 fun _ _ f => f.elim, ?_, (ro.keep fun b hb => c2.keep b (ro.lt w hb) (hob b hb)).stay c2.wf d2, d3⟩
  have r4 : HdR h3 p { st with left := [] } := ⟨⟨none, 0, 0⟩, c3, .inl ⟨rfl, .inl rfl⟩, fun f => by obtain ⟨o, q⟩ := f; cases q⟩
  have := r4.stay c2.wf d2
  rw [he] at this
  exact this
theorem Pure.greetOf (fl : Nat) (hf : fl < 4) (y : List UInt8) : greetP ⟨[] ++ (beN fl 4 ++ y), false, false, [], false, false⟩ = ⟨y, true, decide (2 ≤ fl), [], false, false⟩ := by
  have e1 : ([] ++ (beN fl 4 ++ y)).drop 4 = y := by
    rw [List.nil_append, List.drop_append_of_le_length (by rw [beN_len]; exact Nat.le_refl _), List.drop_eq_nil_of_le (by rw [beN_len]; exact Nat.le_refl _), List.nil_append]
  have e2 : unbe (([] ++ (beN fl 4 ++ y)).take 4) = fl := by
    rw [List.nil_append, List.take_append_of_le_length (by rw [beN_len]; exact Nat.le_refl _), List.take_of_length_le (by rw [beN_len]; exact Nat.le_refl _)]
    exact unbe_be (by have : (256 : Nat) ^ 4 = 4294967296 := rfl; omega)
  unfold greetP
  simp only
  rw [e1, e2]
  have : fl = 0 ∨ fl = 1 ∨ fl = 2 ∨ fl = 3 := by omega
  rcases this with rfl | rfl | rfl | rfl <;> rfl
/-- flags, an option that chooses, and what stands behind -/
theorem Pure.feedChoose (k : Nat) (hk : 1000 < k) {h : H} (w : WF h) {p b : Nat} (r : HdR h p ⟨[], false, false, [], false, false⟩) {nm : List UInt8} (hn : nm.length ≤ 4) {se : Int} {ro : Bool} (I : Is h b 35 3 (Pure.exV nm se ro)) (hbp : b ≠ p) (h0 : 0 ≤ se) (h1 : se ≤ 5000) (fl : Nat) (hf : fl < 4) (byName : Bool) (y : List UInt8) {s : Sl}
    (hy : y.length ≤ 140737488355000) (rs : SlR 1 h s (byt (beN fl 4 ++ ((if byName then optB 1 nm else optB 7 (Pure.goB nm)) ++ y)))) :
    ∃ s' t' h', hand_Hand_Feed.f k (some ⟨p, 0, none⟩) s ⟨some ⟨b, 0, none⟩, 1, 1⟩ h = some ((s', t'), h') ∧ Ch (fun b => b = p) h h' ∧ HdR h' p ⟨[], true, decide (2 ≤ fl), nm, true, false⟩ ∧ Ow 5 1 h' s' (byt (if byName then Pure.about se ro ++ (if fl < 2 then List.replicate 124 0 else []) else replyB 7 3 ([0, 0] ++ Pure.about se ro) ++ replyB 7 1 [])) ∧ Ow 5 1 h' t' (byt y) := by
  obtain ⟨m, rfl⟩ : ∃ m, k = m + 3 := ⟨k - 3, by omega⟩
  have gl : (Pure.goB nm).length = 6 + nm.length := by unfold Pure.goB; simp only [List.length_append, beN_len, List.length_cons, List.length_nil]; omega
  obtain ⟨h1', a1, a2, a3⟩ := feed_in (m + 3) hk w r rfl rfl (l := ⟨some ⟨b, 0, none⟩, 1, 1⟩) rs (by
    show 0 + _ ≤ _
    rw [List.length_append, beN_len, List.length_append]
    cases byName
    · rw [if_neg (by simp), optB_len, gl]; omega
    · rw [if_pos rfl, optB_len]; omega)
  rw [a1]
  rw [loopGo (m + 3) (m + 2) a3 rfl rfl]
  obtain ⟨h2, b1, b2, b3⟩ := stepGreet (m + 3) hk a2.wf a3 rfl (by show 4 ≤ ([] ++ _).length; rw [List.nil_append, List.length_append, beN_len]; omega) ⟨some ⟨b, 0, none⟩, 1, 1⟩
  rw [b1]
  simp only [Option.bind_some, Bool.not_true, cond_false]
  rw [apNil ⟨none, 0, 0⟩ b2.wf Pure.nilOw (by decide)]
  simp only [Option.bind_some]
  rw [Pure.greetOf fl hf] at b3
  rw [loopGo (m + 3) (m + 1) b3 rfl rfl]
  have C2 := a2.trans b2 fun _ _ f => f
  have I2 := I.keep (C2.keep b (I.lt w) hbp)
  have pl := r.lt w
  have l2 := C2.le
  have nb : ∀ x, ¬ SlB ⟨none, 0, 0⟩ x := fun x hx => by obtain ⟨o, q⟩ := hx; cases q
  -- the option
  have D : ∃ s3 h3, hand_Hand_step.f (m + 3) (some ⟨p, 0, none⟩) ⟨some ⟨b, 0, none⟩, 1, 1⟩ h2 = some ((s3, true), h3) ∧ Ch (fun b => b = p) h2 h3 ∧ HdR h3 p ⟨y, true, decide (2 ≤ fl), nm, true, false⟩ ∧ Ow 5 1 h3 s3 (byt (if byName then Pure.about se ro ++ (if fl < 2 then List.replicate 124 0 else []) else replyB 7 3 ([0, 0] ++ Pure.about se ro) ++ replyB 7 1 [])) ∧ ∀ x, SlB s3 x → h2.next ≤ x := by
    cases byName with
    | true =>
      rw [if_pos rfl] at b3 ⊢
      obtain ⟨c1, c2, c3, c4, c5⟩ := Pure.cutOpt 1 nm y (by decide) (by omega)
      obtain ⟨sd, h3, d1, d2, d3, d4⟩ := stepOpt (m + 3) hk b2.wf b3 rfl (Pure.optGood 1 nm y (by decide) (by omega)) (by show 16 + unbe (cutL (optB 1 nm ++ y) 12 16) ≤ (optB 1 nm ++ y).length; rw [c3, List.length_append, optB_len]; omega) ⟨some ⟨b, 0, none⟩, 1, 1⟩
      simp only [c2, c3, c4, c5] at d1 d3 d4
      rw [d1]
      unfold hand_Hand_option.f
      rw [show (Int.ofNat 1 == (1 : Int)) = true from rfl, cond_true, txt_sl d4]
      simp only [Option.bind_some]
      have I3 := I2.keep (d2.keep b (by have := I.lt w; omega) hbp)
      obtain ⟨s4, h4, e1, e2, e3, e4, e5⟩ := Pure.named_f (m + 3) hk d2.wf d3 I3 h0 h1
      rw [show (⟨nm.toArray⟩ : ByteArray) = ba nm from rfl, e1]
      refine ⟨s4, h4, rfl, d2.trans e2 fun _ _ f => f, e3, ?_, fun x hx => by have := e5 x hx; have := d2.le; omega⟩
      have e6 : (if decide (2 ≤ fl) = true then ([] : List UInt8) else List.replicate 124 0) = if fl < 2 then List.replicate 124 0 else [] := by
        by_cases c : 2 ≤ fl
        · rw [decide_eq_true c, if_pos rfl, if_neg (by omega)]
        · rw [decide_eq_false c, if_neg (by simp), if_pos (by omega)]
      rw [← e6]; exact e4
    | false =>
      rw [if_neg (by simp)] at b3 ⊢
      obtain ⟨c1, c2, c3, c4, c5⟩ := Pure.cutOpt 7 (Pure.goB nm) y (by decide) (by omega)
      obtain ⟨sd, h3, d1, d2, d3, d4⟩ := stepOpt (m + 3) hk b2.wf b3 rfl (Pure.optGood 7 (Pure.goB nm) y (by decide) (by omega)) (by show 16 + unbe (cutL (optB 7 (Pure.goB nm) ++ y) 12 16) ≤ (optB 7 (Pure.goB nm) ++ y).length; rw [c3, List.length_append, optB_len]; omega) ⟨some ⟨b, 0, none⟩, 1, 1⟩
      simp only [c2, c3, c4, c5] at d1 d3 d4
      rw [d1]
      unfold hand_Hand_option.f
      rw [show (Int.ofNat 7 == (1 : Int)) = false from rfl, cond_false, show (Int.ofNat 7 == (2 : Int)) = false from rfl, cond_false, show (Int.ofNat 7 == (3 : Int)) = false from rfl, cond_false, show (Int.ofNat 7 == (6 : Int)) = false from rfl, cond_false, show (Int.ofNat 7 == (7 : Int)) = true from rfl]
      simp only [Option.bind_some, cond_true]
      have I3 := I2.keep (d2.keep b (by have := I.lt w; omega) hbp)
      obtain ⟨s4, h4, e1, e2, e3, e4, e5⟩ := Pure.inform_f (m + 3) hk d2.wf d3 hn I3 h0 h1 d4
      rw [show Int.ofNat 7 = (7 : Int) from rfl, e1]
      exact ⟨s4, h4, rfl, d2.trans e2 fun _ _ f => f, e3, e4, fun x hx => by have := e5 x hx; have := d2.le; omega⟩
  obtain ⟨s3, h3, d1, d2, d3, d4, d5⟩ := D
  rw [d1]
  simp only [Option.bind_some, Bool.not_true, cond_false]
  generalize hans : (if byName then Pure.about se ro ++ (if fl < 2 then List.replicate 124 0 else []) else replyB 7 3 ([0, 0] ++ Pure.about se ro) ++ replyB 7 1 []) = ans at d4 ⊢
  have al : (Pure.about se ro).length = 10 := by unfold Pure.about; simp only [List.length_append, beN_len]
  have ansl : ans.length ≤ 1000 := by
    rw [← hans]
    cases byName
    · rw [if_neg (by simp)]
      unfold replyB
      simp only [List.length_append, beN_len, al, List.length_cons, List.length_nil]; omega
    · rw [if_pos rfl, List.length_append, al]
      by_cases c : fl < 2
      · rw [if_pos c, List.length_replicate]; omega
      · rw [if_neg c]; decide
  obtain ⟨s4, h4, f1, f2, f3, f4⟩ := app_b d2.wf (Pure.nilOw (h := h3)) d4.slr (by show 0 + ans.length ≤ _; omega)
  rw [f1]
  simp only [Option.bind_some]
  have c34 : Ch0 h3 h4 := f2.mono fun x _ f => nb x f
  have r4 := d3.stay d2.wf c34
  rw [List.nil_append] at f3
  rw [loopStop (m + 3) m r4 (.inr rfl)]
  simp only [Option.bind_some]
  have s4p : ∀ x, SlB s4 x → x ≠ p := fun x hx => (f4 x hx).elim (fun f => absurd f (nb x)) fun f => by have := d2.le; omega
  obtain ⟨t', h5, g1, g2, g3, g4, g5⟩ := Pure.feedTail (m + 3) c34.wf r4 rfl (by show y.length ≤ _; omega) s4 f3 s4p
  rw [g1]
  exact ⟨s4, t', h5, rfl, ((C2.trans d2 fun _ _ f => f).trans c34 fun _ _ f => f.elim).trans g2 fun _ _ f => f, g3, g4, g5⟩
theorem Pure.newT_ok {h : H} (w : WF h) (nm : List UInt8) : Ch0 h (newT h 5 (ba nm)) ∧ (newT h 5 (ba nm)).next = h.next + 1 ∧ Is (newT h 5 (ba nm)) h.next 5 1 (byt nm) := by
  have e : newT h 5 (ba nm) = newR h 5 1 (byt nm) := by
    unfold newT newR byt
    rw [show (ba nm).data.toList = nm from List.toList_toArray]
  rw [e]
  exact newR_ok w 5 1 (byt nm)
theorem Pure.appStr {h : H} (w : WF h) {s : Sl} {x : List UInt8} (r : Ow 5 1 h s (byt x)) (nm : List UInt8) (hb : x.length + nm.length ≤ 1000000) :
    ∃ s' h', asS2 (apv 5 1 1 (.slice s.a s.n s.c) (.string (ba nm)) h) = some (s', h') ∧ Ch (SlB s) h h' ∧ Ow 5 1 h' s' (byt (x ++ nm)) ∧ ∀ b, SlB s' b → SlB s b ∨ h.next ≤ b := by
  have hs := r.slr.n_byt
  have el : (ba nm).data.toList = nm := List.toList_toArray
  have e0 : apv 5 1 1 (.slice s.a s.n s.c) (.string (ba nm)) h = apN 5 1 1 (.slice s.a s.n s.c) nm.length (byt nm) h := by
    have e1 : lenV (.string (ba nm)) = some nm.length := by
      show some (ba nm).data.toList.length = _
      rw [el]
    have e2 : firstA h 1 nm.length (.string (ba nm)) = some (byt nm) := by
      show some (((ba nm).data.toList.take nm.length).map fun c => Value.int .u8 (.ofNat c.toNat)) = _
      rw [el, List.take_of_length_le (Nat.le_refl _)]; rfl
    simp only [apv, e1, e2]
  obtain ⟨s', h', e1, e2, e3, e4, e5⟩ := apN_ok (by_ := 1) w r (by decide) (n := nm.length) (new := byt nm) (by rw [hs]; omega) (byt_one _) (by rw [byt_len]; omega)
  rw [e0, e1]
  exact ⟨s', h', rfl, e2, by rw [← byt_app]; exact e3, fun b hb => (e5 b hb).imp id fun f => f.1⟩
theorem Pure.playOpt (k : Nat) (a : Int) (s : Sl) (h : H) : corbelplay_option.f k a s h = corbellaw23_option.f k a s h := rfl
/-- what asks for a name by 7 -/
theorem Pure.go_f (k : Nat) (hk : 1000 < k) {h : H} (w : WF h) (nm : List UInt8) (hn : nm.length ≤ 4) : ∃ s' h', corbelplay_Go.f k (ba nm) h = some (s', h') ∧ Ch0 h h' ∧ Ow 5 1 h' s' (byt ([0, 0, 0, 1] ++ optB 7 (Pure.goB nm))) ∧ ∀ b, SlB s' b → h.next ≤ b := by
  unfold corbelplay_Go.f
  have el : (ba nm).data.toList = nm := List.toList_toArray
  rw [el]
  obtain ⟨s1, g1, a1, a2, a3, a4⟩ := big_f k hk nm.length 4 (by decide) w (Int.ofNat nm.length) rfl 4 rfl
  rw [a1]
  simp only [Option.bind_some]
  obtain ⟨s2, g2, b1, b2, b3, b4⟩ := Pure.appStr a2.wf a3 nm (by rw [beN_len]; omega)
  rw [b1]
  simp only [Option.bind_some]
  have c02 : Ch0 h g2 := Ch0.own a2 b2 a4
  have l1 := a2.le
  have f2 : ∀ b, SlB s2 b → h.next ≤ b := fun b hb => (b4 b hb).elim (a4 b) fun f => by omega
  rw [show [Value.int .u8 (0 : Int), Value.int .u8 (0 : Int)] = byt [0, 0] from rfl]
  obtain ⟨y1, y2, y3⟩ := newR_ok c02.wf 5 1 (byt [0, 0])
  obtain ⟨s3, g3, d1, d2, d3, d4⟩ := app_b y1.wf (b3.stay b2.wf y1) (t := ⟨some ⟨g2.next, 0, none⟩, 2, 2⟩) (y := [0, 0]) (SlR.of_is y3 (n := 2) rfl (by unfold unk; omega)) (by simp only [List.length_append, beN_len, List.length_cons, List.length_nil]; omega)
  rw [d1]
  simp only [Option.bind_some]
  have c03 : Ch0 h g3 := Ch0.own (c02.then y1) d2 f2
  have l2 := c02.le
  have f3 : ∀ b, SlB s3 b → h.next ≤ b := fun b hb => (d4 b hb).elim (f2 b) fun f => by omega
  rw [show [Value.int .u8 (0 : Int), Value.int .u8 (0 : Int), Value.int .u8 (0 : Int), Value.int .u8 (1 : Int)] = byt [0, 0, 0, 1] from rfl]
  obtain ⟨x1, x2, x3⟩ := newR_ok c03.wf 5 1 (byt [0, 0, 0, 1])
  generalize newR g3 5 1 (byt [0, 0, 0, 1]) = g4 at x1 x2 x3 ⊢
  have gl : (Pure.goB nm).length = 6 + nm.length := by unfold Pure.goB; simp only [List.length_append, beN_len, List.length_cons, List.length_nil]; omega
  rw [Pure.playOpt]
  obtain ⟨s5, g5, e1, e2, e3, e4⟩ := option_f k hk x1.wf 7 7 rfl (d := Pure.goB nm) (d3.slr.stay d2.wf x1) (by omega)
  rw [e1]
  simp only [Option.bind_some]
  have o4 : Ow 5 1 g5 ⟨some ⟨g3.next, 0, none⟩, 4, 4⟩ (byt [0, 0, 0, 1]) := (Ow.of_is (n := 4) x3 rfl (by unfold unk; omega)).stay x1.wf e2
  obtain ⟨s6, g6, i1, i2, i3, i4⟩ := app_b e2.wf o4 e3.slr (by rw [optB_len, gl]; show 4 + _ ≤ _; omega)
  rw [i1]
  have l3 := c03.le
  have fb : ∀ b, SlB ⟨some ⟨g3.next, 0, none⟩, 4, 4⟩ b → h.next ≤ b := fun b hb => by obtain ⟨o, q⟩ := hb; have : g3.next = b := congrArg Addr.block (Option.some.inj q); omega
  have c05 := (c03.then x1).then e2
  have l5 := c05.le
  exact ⟨s6, g6, rfl, Ch0.own c05 i2 fb, i3, fun b hb => (i4 b hb).elim (fb b) fun f => by omega⟩
theorem Pure.chooses_f (k : Nat) (hk : 1000 < k) {h : H} (w : WF h) (which : Int) (byName : Bool) (flags : Int) {bs : Sl} {y : List UInt8} (ry : SlR 1 h bs (byt y)) (hy : y.length ≤ 140737488351232) (sectors : Int) :
    ∃ h', corbellaw23_HandChooses.f k which byName flags bs sectors h = some (true, h') := by
  unfold corbellaw23_HandChooses.f
  obtain ⟨nm, a1, hn⟩ := Pure.name_f k which h
  rw [a1]
  simp only [Option.bind_some]
  have P : ∀ (n m : Int) (h0 : 0 < m) (h1 : m ≤ 4611686018427387904) (g : H), corbelhand_Pick.f k n m g = some (n % m, g) := fun n m h0 h1 g => pick_f k n m g h0 h1
  rw [P sectors 5000 (by decide) (by decide)]
  have s0 := Int.emod_nonneg sectors (show (5000 : Int) ≠ 0 by decide)
  have s1 := Int.emod_lt_of_pos sectors (show (0 : Int) < 5000 by decide)
  generalize sectors % 5000 = se at s0 s1
  generalize (which.tmod (2 : Int) == (0 : Int)) = ro
  simp only [Option.bind_some]
  rw [show [Value.string (ba nm), Value.int .i64 se, Value.bool ro] = Pure.exV nm se ro from rfl]
  obtain ⟨z1, z2, z3⟩ := newR_ok w 35 3 (Pure.exV nm se ro)
  generalize newR h 35 3 (Pure.exV nm se ro) = g0 at z1 z2 z3 ⊢
  obtain ⟨g1, b1, b2, b3⟩ := new_f k z1.wf
  rw [b1]
  simp only [Option.bind_some, Bool.not_true, cond_false, Pure.eqptr22, asB]
  generalize hp : g0.next = p at b3 ⊢
  rw [P flags 4 (by decide) (by decide)]
  obtain ⟨fl, hF⟩ : ∃ T : Nat, flags % 4 = Int.ofNat T := ⟨_, nn _ (Int.emod_nonneg flags (by decide))⟩
  have f4 : fl < 4 := by have := Int.emod_lt_of_pos flags (show (0 : Int) < 4 by decide); rw [hF] at this; simp only [Int.ofNat_eq_natCast] at this; omega
  rw [hF]
  simp only [Option.bind_some]
  have c01 := z1.then b2
  have I1 := z3.stay z1.wf b2
  obtain ⟨sf, g2, d1, d2, d3, d4⟩ := big_f k hk fl 4 (by decide) c01.wf (Int.ofNat fl) rfl 4 rfl
  rw [d1]
  simp only [Option.bind_some]
  rw [show ixs 3 (some ⟨h.next, 0, none⟩) 1 (0 : Int) = some (.pointer (some ⟨h.next, 0, none⟩)) from rfl]
  have I2 := I1.stay c01.wf d2
  simp only [asP_ptr, Option.bind_some, fadd, I2.ldc]
  rw [show (Pure.exV nm se ro)[0 + 1]? = some (.int .i64 se) from rfl]
  simp only [asI_int, Option.bind_some]
  rw [wrap_in (n := se * 16) (by omega) (by omega)]
  obtain ⟨s8, g3, e1, e2, e3, e4⟩ := big_f k hk (se * 16).toNat 8 (by decide) d2.wf (se * 16) (nn _ (by omega)) 8 rfl
  rw [e1]
  simp only [Option.bind_some]
  have I3 := I2.stay d2.wf e2
  rw [Pure.isEx I3, Pure.bindEx]
  dsimp only
  obtain ⟨g4, i1, i2⟩ := Pure.flags_f k e2.wf nm se ro
  rw [i1]
  simp only [Option.bind_some]
  obtain ⟨s9, g5, j1, j2, j3, j4⟩ := big_f k hk (if ro then 111 else 109) 2 (by decide) i2.wf _ rfl 2 rfl
  rw [j1]
  simp only [Option.bind_some]
  have c35 := i2.then j2
  obtain ⟨sa, g6, k1, k2, k3, k4⟩ := app_b j2.wf (e3.stay e2.wf c35) j3.slr (by simp only [beN_len]; omega)
  rw [k1]
  simp only [Option.bind_some]
  rw [same1_of (e2.keep h.next (by have := d2.le; have := b2.le; omega) fun f => f), Bool.true_and, cond_true]
  have about_eq : beN (se * 16).toNat 8 ++ beN (if ro then 111 else 109) 2 = Pure.about se ro := rfl
  rw [about_eq] at k3
  have al : (Pure.about se ro).length = 10 := by unfold Pure.about; simp only [List.length_append, beN_len]
  have c25 : Ch0 g2 g5 := e2.then c35
  have l2 := d2.le
  have c26 : Ch0 g2 g6 := Ch0.own c25 k2 e4
  have c16 := d2.then c26
  have c06 := c01.then c16
  have I6 := I1.stay c01.wf c16
  have R6 := b3.stay b2.wf c16
  have F6 := d3.stay d2.wf c26
  have sab : ∀ x, SlB sa x → g2.next ≤ x := fun x hx => (k4 x hx).elim (e4 x) fun f => by have := c25.le; omega
  -- what is asked, what is wanted
  have J : ∃ st wv h7, ((cond byName
      ((asT (ldc g6 (some ⟨h.next, 0 + 0, none⟩))).bind fun s19 =>
    (corbellaw23_option.f k (1 : Int) (⟨(some ⟨g6.next, 0, none⟩), s19.data.toList.length, (unkOf 1)⟩ : Sl) (newT g6 5 s19)).bind fun q20 =>
    (asS2 (apv 5 1 1 (Value.slice sf.a sf.n sf.c) (Value.slice q20.1.a q20.1.n q20.1.c) q20.2)).bind fun q21 =>
    (asT (txt q21.2 (Value.slice sa.a sa.n sa.c))).bind fun s22 =>
    (cond (decide (Int.ofNat fl < (2 : Int)))
      ((asT (txt (newZ q21.2 5 1 [(Value.int .u8 (0 : Int))] 124) (Value.slice (some ⟨q21.2.next, 0, none⟩) 124 124))).bind fun s23 =>
    (asT (strA .add s22 s23)).bind fun s24 =>
    some (s24, (newZ q21.2 5 1 [(Value.int .u8 (0 : Int))] 124)))
      (some (s22, q21.2)) : Option ((ByteArray) × H)).bind fun j25 =>
    some ((q21.1, j25.1), j25.2))
      ((asT (ldc g6 (some ⟨h.next, 0 + 0, none⟩))).bind fun s28 =>
    (corbelplay_Go.f k s28 g6).bind fun q29 =>
    (asS (subs 1 (Value.slice q29.1.a q29.1.n q29.1.c) (some (4 : Int)) none)).bind fun s30 =>
    (asS2 (apv 5 1 1 (Value.slice sf.a sf.n sf.c) (Value.slice s30.a s30.n s30.c) q29.2)).bind fun q31 =>
    (asT (strA .add (⟨#[0, 3, 232, 137, 4, 85, 101, 169, 0, 0, 0, 7, 0, 0, 0]⟩ : ByteArray) (⟨#[3, 0, 0, 0, 12, 0, 0]⟩ : ByteArray))).bind fun s32 =>
    (asT (txt q31.2 (Value.slice sa.a sa.n sa.c))).bind fun s33 =>
    (asT (strA .add s32 s33)).bind fun s34 =>
    (asT (strA .add s34 (⟨#[0, 3, 232, 137, 4, 85, 101, 169, 0, 0, 0, 7, 0, 0, 0]⟩ : ByteArray))).bind fun s35 =>
    (asT (strA .add s35 (⟨#[1, 0, 0, 0, 0]⟩ : ByteArray))).bind fun s36 =>
    some ((q31.1, s36), q31.2)) : Option ((Sl × ByteArray) × H))) = some ((st, ba wv), h7) ∧ Ch0 g1 h7 ∧ Ow 5 1 h7 st (byt (beN fl 4 ++ (if byName then optB 1 nm else optB 7 (Pure.goB nm)))) ∧ (∀ x, SlB st x → g1.next ≤ x) ∧ wv = (if byName then Pure.about se ro ++ (if fl < 2 then List.replicate 124 0 else []) else replyB 7 3 ([0, 0] ++ Pure.about se ro) ++ replyB 7 1 []) := by
    have el : (ba nm).data.toList = nm := List.toList_toArray
    have gl : (Pure.goB nm).length = 6 + nm.length := by unfold Pure.goB; simp only [List.length_append, beN_len, List.length_cons, List.length_nil]; omega
    cases byName with
    | true =>
      simp only [cond_true, asP_ptr, Option.bind_some, fadd, I6.ldc]
      rw [show asT ((Pure.exV nm se ro)[0 + 0]?) = some (ba nm) from rfl]
      simp only [Option.bind_some]
      rw [el]
      obtain ⟨t1, t2, t3⟩ := Pure.newT_ok c06.wf nm
      have rn : SlR 1 (newT g6 5 (ba nm)) ⟨some ⟨g6.next, 0, none⟩, nm.length, unkOf 1⟩ (byt nm) := .inr ⟨g6.next, 0, rfl, by rw [byt_len]; show nm.length = nm.length * 1; omega, by
        show (newT g6 5 (ba nm)).gets g6.next 0 (nm.length * 1) = _
        rw [t3.gets (by rw [byt_len]; omega), List.drop_zero, List.take_of_length_le (by rw [byt_len]; omega)], .inr rfl⟩
      obtain ⟨s3, g8, u1, u2, u3, u4⟩ := option_f k hk t1.wf 1 1 rfl rn (by omega)
      rw [u1]
      simp only [Option.bind_some]
      have c68 := t1.then u2
      obtain ⟨s4, g9, v1, v2, v3, v4⟩ := app_b u2.wf (F6.stay c26.wf c68) u3.slr (by rw [beN_len, optB_len]; omega)
      rw [v1]
      simp only [Option.bind_some]
      have c19 : Ch0 g1 g9 := Ch0.own (c16.then c68) v2 d4
      have sab9 := (k3.stay k2.wf c68).keep fun x hx => v2.keep x (by have := k3.lt k2.wf hx; have := c68.le; omega) fun f => by
        have h1 := sab x hx
        have h2 := d3.lt d2.wf f
        omega
      rw [txt_sl sab9.slr]
      simp only [Option.bind_some]
      have s4b : ∀ x, SlB s4 x → g1.next ≤ x := fun x hx => (v4 x hx).elim (d4 x) fun f => by have := (c16.then c68).le; omega
      by_cases cf : fl < 2
      · rw [decide_eq_true (show Int.ofNat fl < (2 : Int) by simp only [Int.ofNat_eq_natCast]; omega), cond_true]
        obtain ⟨n1, n2, n3⟩ := newZ_ok v2.wf 5 1 (.int .u8 0) 124
        rw [Nat.mul_one, byt_rep] at n3
        have rz : SlR 1 (newZ g9 5 1 [.int .u8 0] 124) ⟨some ⟨g9.next, 0, none⟩, 124, 124⟩ (byt (List.replicate 124 0)) := SlR.of_is n3 (by rw [byt_len, List.length_replicate]) (by unfold unk; omega)
        rw [show txt (newZ g9 5 1 [Value.int .u8 (0 : Int)] 124) (Value.slice (some ⟨g9.next, 0, none⟩) 124 124) = _ from txt_ok rz]
        simp only [asT, Option.bind_some]
        have ad := Pure.add_ba (Pure.about se ro) (List.replicate 124 0) (by rw [al, List.length_replicate]; decide)
        simp only [asT] at ad
        rw [ad]
        simp only [Option.bind_some]
        exact ⟨s4, _, _, rfl, c19.then n1, v3.stay v2.wf n1, s4b, by rw [if_pos trivial, if_pos cf]⟩
      · rw [decide_eq_false (show ¬ Int.ofNat fl < (2 : Int) by simp only [Int.ofNat_eq_natCast]; omega), cond_false]
        simp only [Option.bind_some]
        exact ⟨s4, Pure.about se ro, g9, rfl, c19, v3, s4b, by rw [if_pos trivial, if_neg cf, List.append_nil]⟩
    | false =>
      simp only [cond_false, asP_ptr, Option.bind_some, fadd, I6.ldc]
      rw [show asT ((Pure.exV nm se ro)[0 + 0]?) = some (ba nm) from rfl]
      simp only [Option.bind_some]
      obtain ⟨s3, g8, u1, u2, u3, u4⟩ := Pure.go_f k hk c06.wf nm hn
      rw [u1]
      simp only [Option.bind_some]
      have ll : ([0, 0, 0, 1] ++ optB 7 (Pure.goB nm)).length = 26 + nm.length := by rw [List.length_append, optB_len, gl]; show 4 + _ = _; omega
      obtain ⟨s5, x1, x2, x3, x4⟩ := subb_ok u3.slr (lo := 4) (hi := 26 + nm.length) (by omega) (by omega) (xlo := some (Int.ofNat 4)) (xhi := none) rfl (by rw [u3.slr.n_byt, ll]; rfl)
      rw [show some (4 : Int) = some (Int.ofNat 4) from rfl, x1]
      simp only [asS_slv, Option.bind_some]
      have ed : (([0, 0, 0, 1] ++ optB 7 (Pure.goB nm)).drop 4).take (26 + nm.length - 4) = optB 7 (Pure.goB nm) := by
        show (optB 7 (Pure.goB nm)).take _ = _
        rw [List.take_of_length_le (by rw [optB_len, gl]; omega)]
      rw [ed] at x3
      obtain ⟨s4, g9, v1, v2, v3, v4⟩ := app_b u2.wf (F6.stay c26.wf u2) x3 (by rw [beN_len, optB_len, gl]; omega)
      rw [v1]
      simp only [Option.bind_some]
      have c19 : Ch0 g1 g9 := Ch0.own (c16.then u2) v2 d4
      have sab9 := (k3.stay k2.wf u2).keep fun x hx => v2.keep x (by have := k3.lt k2.wf hx; have := u2.le; omega) fun f => by
        have h1 := sab x hx
        have h2 := d3.lt d2.wf f
        omega
      have s4b : ∀ x, SlB s4 x → g1.next ≤ x := fun x hx => (v4 x hx).elim (d4 x) fun f => by have := (c16.then u2).le; omega
      rw [show (⟨#[0, 3, 232, 137, 4, 85, 101, 169, 0, 0, 0, 7, 0, 0, 0]⟩ : ByteArray) = ⟨([0, 3, 232, 137, 4, 85, 101, 169, 0, 0, 0, 7, 0, 0, 0] : List UInt8).toArray⟩ from rfl, show (⟨#[3, 0, 0, 0, 12, 0, 0]⟩ : ByteArray) = ⟨([3, 0, 0, 0, 12, 0, 0] : List UInt8).toArray⟩ from rfl, show (⟨#[1, 0, 0, 0, 0]⟩ : ByteArray) = ⟨([1, 0, 0, 0, 0] : List UInt8).toArray⟩ from rfl]
      rw [Pure.add_ba _ _ (by decide)]
      simp only [Option.bind_some]
      rw [txt_sl sab9.slr]
      simp only [Option.bind_some]
      rw [Pure.add_ba _ _ (by rw [al]; decide)]
      simp only [Option.bind_some]
      rw [Pure.add_ba _ _ (by rw [List.length_append, al]; decide)]
      simp only [Option.bind_some]
      rw [Pure.add_ba _ _ (by rw [List.length_append, List.length_append, al]; decide)]
      simp only [Option.bind_some]
      refine ⟨s4, _, g9, rfl, c19, v3, s4b, ?_⟩
      rw [if_neg (by simp)]
      unfold replyB
      have q1 : beN ([0, 0] ++ Pure.about se ro).length 4 = [0, 0, 0, 12] := by rw [List.length_append, al]; decide
      have q2 : beN ([] : List UInt8).length 4 = [0, 0, 0, 0] := by decide
      have q3 : beN 7 4 = [0, 0, 0, 7] := by decide
      have q4 : beN 3 4 = [0, 0, 0, 3] := by decide
      have q5 : beN 1 4 = [0, 0, 0, 1] := by decide
      rw [q1, q2, q3, q4, q5]
      simp only [List.append_assoc, List.append_nil]
      rfl
  obtain ⟨st, wv, h7, m1, m2, m3, m4, m5⟩ := J
  rw [m1]
  simp only [Option.bind_some]
  have c07 := c01.then m2
  have ol : (beN fl 4 ++ (if byName then optB 1 nm else optB 7 (Pure.goB nm))).length ≤ 100 := by
    have gl : (Pure.goB nm).length = 6 + nm.length := by unfold Pure.goB; simp only [List.length_append, beN_len, List.length_cons, List.length_nil]; omega
    rw [List.length_append, beN_len]
    cases byName
    · rw [if_neg (by simp), optB_len, gl]; omega
    · rw [if_pos rfl, optB_len]; omega
  obtain ⟨sx, h8, n1, n2, n3, n4⟩ := app_b m2.wf m3 (ry.stay w c07) (by omega)
  rw [n1]
  simp only [Option.bind_some]
  have c18 : Ch0 g1 h8 := Ch0.own m2 n2 m4
  have hle := z1.le
  obtain ⟨so, tr, h9, o1, o2, o3, o4, o5⟩ := Pure.feedChoose k hk c18.wf (b3.stay b2.wf c18) hn (I1.stay c01.wf c18) (by omega) s0 (by omega) fl f4 byName y (by omega) (by rw [← List.append_assoc]; exact n3.slr)
  rw [o1]
  simp only [Option.bind_some]
  rw [chosen_f k o3]
  simp only [Option.bind_some]
  rw [← m5] at o4
  rw [txt_sl o4.slr]
  simp only [Option.bind_some]
  rw [show ba wv = ⟨wv.toArray⟩ from rfl, ba_eq, decide_eq_true rfl]
  simp only [cond_true]
  rw [txt_sl o5.slr]
  have c08 := c01.then c18
  have ry9 : SlR 1 h9 bs (byt y) := (ry.stay w c08).keep fun x hx => o2.keep x (by have := ry.blk w hx; have := c08.le; omega) (by have := ry.blk w hx; omega)
  rw [txt_sl ry9]
  simp only [Option.bind_some, ba_eq, decide_true, cond_true]
  have I9 := (I1.stay c01.wf c18).keep (o2.keep h.next (by have := I1.lt c01.wf; have := c18.le; omega) (by omega))
  simp only [I9.ldc]
  rw [show asT ((Pure.exV nm se ro)[0 + 0]?) = some (ba nm) from rfl]
  simp only [Option.bind_some, beq_self_eq_true, cond_true]
  rw [ended_f k o3]
  exact ⟨h9, rfl⟩
theorem Pure.HandChooses : ∀ h x vs, Den.WF h → Den.Dead h → Ar.HandChooses.R h x vs → Ar.HandChooses.Q x → ∃ a, Den.encL [.int .i64, .bool, .int .i64, .sl, .int .i64] a = vs ∧ Den.toldB (Fwd.corbellaw23_HandChooses.f 2000000 a.1 a.2.1 a.2.2.1 a.2.2.2.1 a.2.2.2.2 h) = true := by
  rintro h ⟨which, nmd, flags, raw, sectors, _⟩ vs w _ ⟨va, vb, rfl, r1, vc, vd, rfl, r2, ve, vf, rfl, r3, vg, vh, rfl, r4, vi, vj, rfl, r5, rfl⟩ ⟨_, _, _, ⟨q1, _, q2⟩, _⟩
  obtain rfl := r1
  obtain rfl := r2
  obtain rfl := r3
  obtain rfl := r5
  obtain ⟨s, rfl, s1, s2, _⟩ := RSl.one (f := fun n => .int .u8 n) (fun _ _ _ e => e) w r4
  obtain ⟨x, e1, e2⟩ := Pure.asBytes raw q2
  rw [e1] at s1
  have hb : Try.prog.bytesOf 5 = 1 := by kernel_rfl
  have hlen : x.length ≤ 140737488351232 := by
    have q1 : raw.length * Try.prog.bytesOf 5 ≤ reachBytes := q1
    rw [hb] at q1
    have : reachBytes ≤ 140737488351232 := by unfold reachBytes; decide
    omega
  obtain ⟨h', g⟩ := Pure.chooses_f 2000000 (by decide) w which nmd flags s1 hlen sectors
  exact ⟨(which, nmd, flags, s, sectors), rfl, (congrArg toldB g).trans rfl⟩
end Go.Proofs.Ytlibnmhicnnldaa
