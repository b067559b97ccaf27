/- ExtentLays: the law's forward run comes to true. -/
import Derived.Test.YtfenkpghcbohdaaFwLays
import Derived.Test.YtfenkpghcbohdaaArExtentLays
namespace Go.Proofs.Ytfenkpghcbohdaa
open Go Den Fwd Fw
set_option linter.unusedVariables false
theorem Pure.all_pieces {cur : List UInt8} (hl : cur.length = 128) : cur.all (· == 0) = allZ (piece cur) 8 := by
  have h1 : ∀ j, j ≤ 8 → (allZ (piece cur) j = true ↔ ∀ i, i < 16 * j → cur[i]? = some 0) := by
    intro j
    induction j with
    | zero => intro _; exact ⟨fun _ i hi => by omega, fun _ => rfl⟩
    | succ j ih =>
      intro hj
      rw [allZ, Bool.and_eq_true, ih (by omega), decide_eq_true_eq]
      constructor
      · rintro ⟨a, b⟩ i hi
        by_cases c : i < 16 * j
        · exact a i c
        · have : (piece cur j)[i - 16 * j]? = zs16[i - 16 * j]? := by rw [b]
          rw [piece_get, if_pos (by omega), show 16 * j + (i - 16 * j) = i by omega] at this
          rw [this]; unfold zs16
          rw [List.getElem?_replicate, if_pos (by omega)]
      · intro a
        refine ⟨fun i hi => a i (by omega), ?_⟩
        apply List.ext_getElem?
        intro i
        rw [piece_get]; unfold zs16
        rw [List.getElem?_replicate]
        by_cases c : i < 16
        · rw [if_pos c, if_pos c]; exact a _ (by omega)
        · rw [if_neg c, if_neg c]
  have h2 : cur.all (· == 0) = true ↔ ∀ i, i < 16 * 8 → cur[i]? = some 0 := by
    rw [List.all_eq_true]
    constructor
    · intro a i hi
      have := a (cur[i]'(by omega)) (List.getElem_mem _)
      rw [List.getElem?_eq_getElem (by omega)]
      exact congrArg some (beq_iff_eq.1 this)
    · intro a v hv
      obtain ⟨i, hi, rfl⟩ := List.mem_iff_getElem.1 hv
      have := a i (by omega)
      rw [List.getElem?_eq_getElem hi] at this
      exact beq_iff_eq.2 (Option.some.inj this)
  cases q : allZ (piece cur) 8 with
  | true => exact h2.2 ((h1 8 (Nat.le_refl _)).1 q)
  | false =>
    cases r : cur.all (· == 0) with
    | true => rw [(h1 8 (Nat.le_refl _)).2 (h2.1 r)] at q; cases q
    | false => rfl
theorem Pure.allZ_congr {f g : Nat → List UInt8} : ∀ j, (∀ q, q < j → f q = g q) → allZ f j = allZ g j
  | 0, _ => rfl
  | j + 1, h => by rw [allZ, allZ, Pure.allZ_congr j fun q hq => h q (by omega), h j (by omega)]
theorem Pure.lays_f (k : Nat) (hk : 1000 < k) {h : H} (w : WF h) (a0 a1 a3 : Int) {s : Sl} {l : List Int} (rs : SlR 1 h s (ivs l)) (hsb : ∀ b, SlB s b → b < h.next) :
    ∃ h', corbellaw17_ExtentLays.f k a0 a1 s a3 h = some (true, h') := by
  unfold corbellaw17_ExtentLays.f
  obtain ⟨h1, ob, a, b, c, d, e⟩ := bytes_f k hk a0 128 (by decide) w
  rw [show corbelhand_Bytes.f k a0 128 h = _ from a]
  simp only [Option.bind_some]
  rw [pick_f k a1 30 h1 (by decide) (by decide)]
  simp only [Option.bind_some]
  obtain ⟨x, hx, hx2⟩ : ∃ x : Nat, x < 30 ∧ a1 % 30 = Int.ofNat x := ⟨(a1 % 30).toNat, by omega, by rw [Int.ofNat_eq_natCast]; omega⟩
  rw [hx2]
  obtain ⟨m1, m2, m3⟩ := newMap_ok .i64 b.wf
  generalize hg : h1.new (.map [] 0 h1.clock) = h2 at *
  have c02 : Ch (fun _ => False) h h2 := b.trans m1 fun _ _ f => f
  have le1 := b.le
  have hm0 : MapD h2 h1.next (fun _ => False) (fun _ => none) := ⟨_, m3, fun n => .inl ⟨rfl, rfl⟩⟩
  obtain ⟨h3, C, DB, l1, l2, l3, l4⟩ := lays_l0 k hk (rs.keep fun q hq => c02.keep q (hsb q hq) fun f => f) h1.next (fun q hq => by have := hsb q hq; omega) (by omega) a3 ⟨some ⟨h.next, 0, none⟩, 128, 128⟩ (Int.ofNat x) k 0 h2 (fun _ => False) (fun _ => none) (by omega) (Nat.zero_le _) (Ch.refl m1.wf) hm0 fun _ f => f.elim
  rw [show corbellaw17_ExtentLays.l0 k k s a3 ⟨some ⟨h.next, 0, none⟩, 128, 128⟩ (Int.ofNat x) (some h1.next) 0 h2 = _ from l1]
  simp only [Option.bind_some]
  have le3 := l2.le
  have I3 : Is h3 h.next 5 1 (byt ob) := (d.keep (m1.keep h.next (by omega) fun f => f)).keep (l2.keep h.next (by omega) (by omega))
  have sold : SlR 1 h3 ⟨some ⟨h.next, 0, none⟩, 128, 128⟩ (byt ob) := SlR.of_is I3 (by rw [byt_len, e]) (by unfold unk; omega)
  have cutd : ∃ (s' : Sl) (ob' : List UInt8), ((cond ((a3.tmod (5 : Int)) == (4 : Int))
      ((corbelhand_Pick.f k a3 (128 : Int) h3).bind fun q22 =>
    (asS (subs 1 (Value.slice (some ⟨h.next, 0, none⟩) 128 128) none (some q22.1))).bind fun s23 =>
    some (s23, q22.2))
      (some ((⟨some ⟨h.next, 0, none⟩, 128, 128⟩ : Sl), h3)) : Option ((Sl) × H))) = some (s', h3) ∧ SlR 1 h3 s' (byt ob') ∧ ∀ q, SlB s' q → q < h3.next := by
    cases g : (a3.tmod 5 == 4) with
    | false => exact ⟨_, ob, rfl, sold, fun q hq => by obtain ⟨o, e1⟩ := hq; cases e1; omega⟩
    | true =>
      rw [cond_true, pick_f k a3 128 h3 (by decide) (by decide)]
      simp only [Option.bind_some]
      obtain ⟨y, hy, hy2⟩ : ∃ y : Nat, y < 128 ∧ a3 % 128 = Int.ofNat y := ⟨(a3 % 128).toNat, by omega, by rw [Int.ofNat_eq_natCast]; omega⟩
      rw [hy2]
      obtain ⟨s', e1, e2, e3, e4⟩ := subs_ok sold (lo := 0) (hi := y) (Nat.zero_le _) (by show y ≤ 128; omega) (xlo := none) (xhi := some (Int.ofNat y)) rfl rfl
      rw [show subs 1 (Value.slice (some ⟨h.next, 0, none⟩) 128 128) none (some (Int.ofNat y)) = _ from e1]
      refine ⟨s', ob.take y, rfl, ?_, fun q hq => by obtain ⟨o, e5⟩ := e4 q hq; cases e5; omega⟩
      have : byt (ob.take y) = ((byt ob).drop (0 * 1)).take ((y - 0) * 1) := by unfold byt; simp [List.map_take]
      rw [this]; exact e3
  obtain ⟨s', ob', g1, g2, g3⟩ := cutd
  rw [g1]
  simp only [Option.bind_some]
  obtain ⟨h4, cur, o1, o2, o3, o4, o5, o6⟩ := overlay_f k hk l2.wf g2 g3 hx l3 (fun q hq => (l4 q hq).2) (by omega)
  rw [o1]
  simp only [Option.bind_some, Bool.not_true, cond_false]
  rw [show (Int.ofNat 128 != (128 : Int)) = false from rfl, cond_false]
  have so : SlR 1 h4 ⟨some ⟨h3.next, 0, none⟩, 128, 128⟩ (byt cur) := SlR.of_is o4 (by rw [byt_len, o5]) (by unfold unk; omega)
  have sob : ∀ q, SlB ⟨some ⟨h3.next, 0, none⟩, 128, 128⟩ q → q < h4.next := fun q hq => by obtain ⟨o, e1⟩ := hq; cases e1; omega
  obtain ⟨h5, p1, p2⟩ := lays_l1 k hk (g2.keep fun q hq => o2.keep q (g3 q hq) fun f => f) (fun q hq => by have := g3 q hq; omega) so sob o5 (l3.keep (C' := C) (o2.keep _ (by omega) fun f => f) fun q hq => ⟨o2.keep q (l4 q hq).2 fun f => f, hq⟩) (by omega) (fun q hq => by have := (l4 q hq).2; omega) hx o6 k 0 h4 true (by omega) (Nat.zero_le _) (Ch.refl o2.wf) rfl
  rw [show corbellaw17_ExtentLays.l1 k k s' (Int.ofNat x) (some h1.next) ⟨some ⟨h3.next, 0, none⟩, 128, 128⟩ true 0 h4 = _ from p1]
  simp only [Option.bind_some]
  rw [empty_f k hk (so.keep fun q hq => p2.keep q (sob q hq) fun f => f) (by omega)]
  simp only [Option.bind_some]
  rw [Pure.all_pieces o5, Pure.allZ_congr 8 o6]
  exact ⟨h5, by simp⟩
theorem Pure.ExtentLays : ∀ h x vs, Den.WF h → Den.Dead h → Ar.ExtentLays.R h x vs → Ar.ExtentLays.Q x → ∃ a, Den.encL [.int .i64, .int .i64, .sl, .int .i64] a = vs ∧ Den.toldB (Fwd.corbellaw17_ExtentLays.f 2000 a.1 a.2.1 a.2.2.1 a.2.2.2 h) = true := by
  rintro h ⟨a0, a1, l, a3, _⟩ vs w _ ⟨va, vb, rfl, rfl, vc, vd, rfl, rfl, ve, vf, rfl, r1, vg, vh, rfl, rfl, rfl⟩ _
  obtain ⟨s, rfl, s1, _, s2⟩ := RSl.one (f := fun n => .int .i64 n) (fun _ _ _ e => e) w r1
  obtain ⟨h', e⟩ := Pure.lays_f 2000 (by decide) w a0 a1 a3 s1 s2
  exact ⟨(a0, a1, s, a3), rfl, by rw [e]; rfl⟩
end Go.Proofs.Ytfenkpghcbohdaa
