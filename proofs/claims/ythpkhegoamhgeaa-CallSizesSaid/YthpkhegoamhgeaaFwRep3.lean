/- call's replies: elements made, a reply under construction. No condition. -/
import Derived.Test.YthpkhegoamhgeaaFwRep2
namespace Go.Proofs.Ythpkhegoamhgeaa.Fw
open Go Den Fwd
set_option linter.unusedVariables false
set_option linter.unusedSimpArgs false
/-- what a reply's box has -/
structure Bd (h : H) (pb : Nat) (c b : Int) (sp si : Sl) (ps : PcS) (is : ItS) : Prop where
  box : Is h pb 67 4 (repV c b sp si)
  op : Ow 69 4 h sp (pccells ps)
  oi : Ow 72 3 h si (itcells is)
  dp : ∀ p ∈ ps, SlR 1 h p.2 (byt p.1.data)
  di : ∀ p ∈ is, SlR 1 h p.2 (byt p.1.data)
  bp : ∀ x, SlB sp x → pb < x ∧ ¬ SlB si x
  bi : ∀ x, SlB si x → pb < x
  xp : ∀ p ∈ ps, ∀ x, SlB p.2 x → pb < x ∧ ¬ SlB sp x ∧ ¬ SlB si x
  xi : ∀ p ∈ is, ∀ x, SlB p.2 x → pb < x ∧ ¬ SlB sp x ∧ ¬ SlB si x
theorem Bd.keep {h h' : H} {pb : Nat} {c b : Int} {sp si : Sl} {ps : PcS} {is : ItS} (w : WF h) (B : Bd h pb c b sp si ps is) {F : Nat → Prop} (k : Ch F h h') (hf : ∀ x, pb ≤ x → x < h.next → ¬ F x) : Bd h' pb c b sp si ps is where
  box := B.box.keep (k.keep pb (B.box.lt w) (hf pb (Nat.le_refl _) (B.box.lt w)))
  op := B.op.keep fun x hx => k.keep x (B.op.lt w hx) (hf x (Nat.le_of_lt (B.bp x hx).1) (B.op.lt w hx))
  oi := B.oi.keep fun x hx => k.keep x (B.oi.lt w hx) (hf x (Nat.le_of_lt (B.bi x hx)) (B.oi.lt w hx))
  dp := fun p hp => (B.dp p hp).keep fun x hx => k.keep x ((B.dp p hp).blk w hx) (hf x (Nat.le_of_lt (B.xp p hp x hx).1) ((B.dp p hp).blk w hx))
  di := fun p hp => (B.di p hp).keep fun x hx => k.keep x ((B.di p hp).blk w hx) (hf x (Nat.le_of_lt (B.xi p hp x hx).1) ((B.di p hp).blk w hx))
  bp := B.bp
  bi := B.bi
  xp := B.xp
  xi := B.xi
theorem Bd.pcr {h : H} {pb : Nat} {c b : Int} {sp si : Sl} {ps : PcS} {is : ItS} (B : Bd h pb c b sp si ps is) : PcR h sp ps := ⟨B.op.slr, B.dp⟩
theorem Bd.itr {h : H} {pb : Nat} {c b : Int} {sp si : Sl} {ps : PcS} {is : ItS} (B : Bd h pb c b sp si ps is) : ItR h si is := ⟨B.oi.slr, B.di⟩
theorem Bd.new {h : H} (w : WF h) (c b : Int) : Ch0 h (newR h 67 4 (repV c b ⟨none, 0, 0⟩ ⟨none, 0, 0⟩)) ∧ Bd (newR h 67 4 (repV c b ⟨none, 0, 0⟩ ⟨none, 0, 0⟩)) h.next c b ⟨none, 0, 0⟩ ⟨none, 0, 0⟩ [] [] := by
  obtain ⟨z1, z2, z3⟩ := newR_ok w 67 4 (repV c b ⟨none, 0, 0⟩ ⟨none, 0, 0⟩)
  exact ⟨z1, ⟨z3, Ow.nil, Ow.nil, (fun p hp => by cases hp), (fun p hp => by cases hp), (fun x hx => by obtain ⟨o, f⟩ := hx; cases f), (fun x hx => by obtain ⟨o, f⟩ := hx; cases f), (fun p hp => by cases hp), (fun p hp => by cases hp)⟩⟩
theorem Bd.of_is {h : H} {pb : Nat} {c b : Int} (z3 : Is h pb 67 4 (repV c b ⟨none, 0, 0⟩ ⟨none, 0, 0⟩)) : Bd h pb c b ⟨none, 0, 0⟩ ⟨none, 0, 0⟩ [] [] :=
  ⟨z3, Ow.nil, Ow.nil, (fun p hp => by cases hp), (fun p hp => by cases hp), (fun x hx => by obtain ⟨o, f⟩ := hx; cases f), (fun x hx => by obtain ⟨o, f⟩ := hx; cases f), (fun p hp => by cases hp), (fun p hp => by cases hp)⟩
theorem Bd.addP {h : H} (w : WF h) {pb : Nat} {c b : Int} {sp si : Sl} {ps : PcS} {is : ItS} (B : Bd h pb c b sp si ps is) (q : Pc) (d : Sl) (hd : SlR 1 h d (byt q.data)) (hb : ∀ x, SlB d x → pb < x ∧ ¬ SlB sp x ∧ ¬ SlB si x) (hl : ps.length ≤ 1000) :
    ∃ s' g1 g2, asS2 (apv 69 4 48 (.slice sp.a sp.n sp.c) (.slice (some ⟨h.next, 0, none⟩) 1 1) (newR h 69 4 (q.vs d))) = some (s', g1) ∧ stv 1 g1 (some ⟨pb, 2, none⟩) [.slice s'.a s'.n s'.c] = some (undef, g2) ∧ Ch (fun x => pb ≤ x) h g2 ∧ Bd g2 pb c b s' si (ps ++ [(q, d)]) is := by
  have hn : sp.n = ps.length := B.pcr.n
  obtain ⟨s', g1, a1, a2, a3, a4⟩ := push_el (by_ := 48) w B.op (by decide) (q.vs d) rfl rfl (by rw [hn]; omega)
  have pbl := B.box.lt w
  have I1 := B.box.keep (a2.keep pb pbl fun f => absurd (B.bp pb f).1 (by omega))
  obtain ⟨g2, b1, b2, b3, b4⟩ := I1.set a2.wf 2 (slv s') (by show 2 < 4; decide) rfl
  have hs' : ∀ x, SlB s' x → pb < x ∧ ¬ SlB si x := fun x hx => (a4 x hx).elim (fun f => B.bp x f) fun f => ⟨by omega, fun g => by have := B.oi.lt w g; omega⟩
  have dk : ∀ (d' : Sl) (l : List Value), SlR 1 h d' l → (∀ x, SlB d' x → pb < x ∧ ¬ SlB sp x ∧ ¬ SlB si x) → SlR 1 g2 d' l := fun d' l r hx => (r.keep fun x hx' => a2.keep x (r.blk w hx') (hx x hx').2.1).keep fun x hx' => b2.keep x (Nat.lt_of_lt_of_le (r.blk w hx') a2.le) (by have := (hx x hx').1; omega)
  have xk : ∀ (d' : Sl) (l : List Value), SlR 1 h d' l → (∀ x, SlB d' x → pb < x ∧ ¬ SlB sp x ∧ ¬ SlB si x) → ∀ x, SlB d' x → pb < x ∧ ¬ SlB s' x ∧ ¬ SlB si x := fun d' l r hx x hx' => ⟨(hx x hx').1, fun f => (a4 x f).elim (hx x hx').2.1 fun g => by have := r.blk w hx'; omega, (hx x hx').2.2⟩
  refine ⟨s', g1, g2, a1, b1, (a2.mono fun x _ f => Nat.le_of_lt (B.bp x f).1).trans b2 fun x _ f => by omega, ⟨b4, ?_, ?_, ?_, ?_, hs', B.bi, ?_, ?_⟩⟩
  · rw [pccells_snoc]
    exact a3.keep fun x hx => b2.keep x (a3.lt a2.wf hx) (by have := (hs' x hx).1; omega)
  · exact (B.oi.keep fun x hx => a2.keep x (B.oi.lt w hx) fun f => (B.bp x f).2 hx).keep fun x hx => b2.keep x (Nat.lt_of_lt_of_le (B.oi.lt w hx) a2.le) (by have := B.bi x hx; omega)
  · intro p hp
    rcases List.mem_append.1 hp with hp | hp
    · exact dk _ _ (B.dp p hp) (B.xp p hp)
    · obtain rfl := List.mem_singleton.1 hp
      exact dk _ _ hd hb
  · exact fun p hp => dk _ _ (B.di p hp) (B.xi p hp)
  · intro p hp
    rcases List.mem_append.1 hp with hp | hp
    · exact xk _ _ (B.dp p hp) (B.xp p hp)
    · obtain rfl := List.mem_singleton.1 hp
      exact xk _ _ hd hb
  · exact fun p hp => xk _ _ (B.di p hp) (B.xi p hp)
theorem Bd.addI {h : H} (w : WF h) {pb : Nat} {c b : Int} {sp si : Sl} {ps : PcS} {is : ItS} (B : Bd h pb c b sp si ps is) (q : It) (d : Sl) (hd : SlR 1 h d (byt q.data)) (hb : ∀ x, SlB d x → pb < x ∧ ¬ SlB sp x ∧ ¬ SlB si x) (hl : is.length ≤ 1000) :
    ∃ s' g1 g2, asS2 (apv 72 3 40 (.slice si.a si.n si.c) (.slice (some ⟨h.next, 0, none⟩) 1 1) (newR h 72 3 (q.vs d))) = some (s', g1) ∧ stv 1 g1 (some ⟨pb, 3, none⟩) [.slice s'.a s'.n s'.c] = some (undef, g2) ∧ Ch (fun x => pb ≤ x) h g2 ∧ Bd g2 pb c b sp s' ps (is ++ [(q, d)]) := by
  have hn : si.n = is.length := B.itr.n
  obtain ⟨s', g1, a1, a2, a3, a4⟩ := push_el (by_ := 40) w B.oi (by decide) (q.vs d) rfl rfl (by rw [hn]; omega)
  have pbl := B.box.lt w
  have I1 := B.box.keep (a2.keep pb pbl fun f => absurd (B.bi pb f) (by omega))
  obtain ⟨g2, b1, b2, b3, b4⟩ := I1.set a2.wf 3 (slv s') (by show 3 < 4; decide) rfl
  have hs' : ∀ x, SlB s' x → pb < x ∧ ¬ SlB sp x := fun x hx => (a4 x hx).elim (fun f => ⟨B.bi x f, fun g => (B.bp x g).2 f⟩) fun f => ⟨by omega, fun g => by have := B.op.lt w g; omega⟩
  have dk : ∀ (d' : Sl) (l : List Value), SlR 1 h d' l → (∀ x, SlB d' x → pb < x ∧ ¬ SlB sp x ∧ ¬ SlB si x) → SlR 1 g2 d' l := fun d' l r hx => (r.keep fun x hx' => a2.keep x (r.blk w hx') (hx x hx').2.2).keep fun x hx' => b2.keep x (Nat.lt_of_lt_of_le (r.blk w hx') a2.le) (by have := (hx x hx').1; omega)
  have xk : ∀ (d' : Sl) (l : List Value), SlR 1 h d' l → (∀ x, SlB d' x → pb < x ∧ ¬ SlB sp x ∧ ¬ SlB si x) → ∀ x, SlB d' x → pb < x ∧ ¬ SlB sp x ∧ ¬ SlB s' x := fun d' l r hx x hx' => ⟨(hx x hx').1, (hx x hx').2.1, fun f => (a4 x f).elim (hx x hx').2.2 fun g => by have := r.blk w hx'; omega⟩
  refine ⟨s', g1, g2, a1, b1, (a2.mono fun x _ f => Nat.le_of_lt (B.bi x f)).trans b2 fun x _ f => by omega, ⟨b4, ?_, ?_, ?_, ?_, (fun x hx => ⟨(B.bp x hx).1, fun f => (hs' x f).2 hx⟩), (fun x hx => (hs' x hx).1), ?_, ?_⟩⟩
  · exact (B.op.keep fun x hx => a2.keep x (B.op.lt w hx) fun f => (B.bp x hx).2 f).keep fun x hx => b2.keep x (Nat.lt_of_lt_of_le (B.op.lt w hx) a2.le) (by have := (B.bp x hx).1; omega)
  · rw [itcells_snoc]
    exact a3.keep fun x hx => b2.keep x (a3.lt a2.wf hx) (by have := (hs' x hx).1; omega)
  · exact fun p hp => dk _ _ (B.dp p hp) (B.xp p hp)
  · intro p hp
    rcases List.mem_append.1 hp with hp | hp
    · exact dk _ _ (B.di p hp) (B.xi p hp)
    · obtain rfl := List.mem_singleton.1 hp
      exact dk _ _ hd hb
  · exact fun p hp => xk _ _ (B.dp p hp) (B.xp p hp)
  · intro p hp
    rcases List.mem_append.1 hp with hp | hp
    · exact xk _ _ (B.di p hp) (B.xi p hp)
    · obtain rfl := List.mem_singleton.1 hp
      exact xk _ _ hd hb

/-! ### Pc made -/
structure PcBx (R : Prop) (g0 g h : H) : Prop where
  ch : Ch0 g0 h
  gl : g0.next ≤ g.next
  lt : g.next < h.next
  box : ∃ (q : Pc) (d : Sl), Is h g.next 69 4 (q.vs d) ∧ SlR 1 h d (byt q.data) ∧ q.data.length ≤ 200 ∧ (∀ b, SlB d b → g0.next ≤ b ∧ b ≠ g.next) ∧ (R → q.right = true)
theorem PcBx.put {R : Prop} {g0 g h : H} (B : PcBx R g0 g h) (hR : ¬ R) (i : Nat) (hi : i < 3) (v : Int) : ∃ h', stv 1 h (some ⟨g.next, i, none⟩) [.int .i64 v] = some (undef, h') ∧ PcBx R g0 g h' := by
  obtain ⟨q, d, I, h1, h2, h3, h4⟩ := B.box
  obtain ⟨h', e1, e2, e3, e4⟩ := I.set B.ch.wf i (.int .i64 v) (by show i < 4; omega) rfl
  have k : SlR 1 h' d (byt q.data) := h1.keep fun b hb => e2.keep b (h1.blk B.ch.wf hb) (h3 b hb).2
  refine ⟨h', e1, Ch0.at B.ch e2 B.gl, B.gl, by rw [e3]; exact B.lt, ?_⟩
  have : i = 0 ∨ i = 1 ∨ i = 2 := by omega
  rcases this with rfl | rfl | rfl
  · exact ⟨⟨v, q.gn, q.ix, q.data⟩, d, e4, k, h2, h3, fun f => absurd f hR⟩
  · exact ⟨⟨q.st, v, q.ix, q.data⟩, d, e4, k, h2, h3, fun f => absurd f hR⟩
  · exact ⟨⟨q.st, q.gn, v, q.data⟩, d, e4, k, h2, h3, fun f => absurd f hR⟩
theorem PcBx.dat {R : Prop} {g0 g h : H} (B : PcBx R g0 g h) (hR : ¬ R) {d : Sl} {x : List UInt8} (r : SlR 1 h d (byt x)) (hx : x.length ≤ 200) (hb : ∀ b, SlB d b → g.next < b) : ∃ h', stv 1 h (some ⟨g.next, 3, none⟩) [.slice d.a d.n d.c] = some (undef, h') ∧ PcBx R g0 g h' := by
  obtain ⟨q, d', I, h1, h2, h3, h4⟩ := B.box
  obtain ⟨h', e1, e2, e3, e4⟩ := I.set B.ch.wf 3 (slv d) (by show 3 < 4; decide) rfl
  exact ⟨h', e1, Ch0.at B.ch e2 B.gl, B.gl, by rw [e3]; exact B.lt, ⟨q.st, q.gn, q.ix, x⟩, d, e4, r.keep fun b hb' => e2.keep b (r.blk B.ch.wf hb') (by have := hb b hb'; omega), hx, (fun b hb' => by have := hb b hb'; have := B.gl; omega), fun f => absurd f hR⟩
theorem PcBx.more {R : Prop} {g0 g h h' : H} (B : PcBx R g0 g h) (c : Ch0 h h') : PcBx R g0 g h' := by
  obtain ⟨q, d, I, h1, h2, h3, h4⟩ := B.box
  exact ⟨B.ch.then c, B.gl, Nat.lt_of_lt_of_le B.lt c.le, q, d, I.stay B.ch.wf c, h1.stay B.ch.wf c, h2, h3, h4⟩
theorem PcBx.bytes {R : Prop} (k : Nat) (hk : 1000 < k) {g0 g h : H} (B : PcBx R g0 g h) (hR : ¬ R) (a : Int) (m : Nat) (hm : m ≤ 200) (n : Int) (hn : n = Int.ofNat m) :
    ∃ d h1 h2, corbelhand_Bytes.f k a n h = some (d, h1) ∧ stv 1 h1 (some ⟨g.next, 3, none⟩) [.slice d.a d.n d.c] = some (undef, h2) ∧ PcBx R g0 g h2 := by
  subst hn
  obtain ⟨d, x, h1, f1, f2, f3, f4, f5⟩ := hbytes_f k a m (by omega) (by omega) B.ch.wf
  obtain ⟨h2, u1, u2⟩ := (B.more f2).dat hR f4.slr (by omega) fun b hb => by have := f5 b hb; have := B.lt; omega
  exact ⟨d, h1, h2, f1, u1, u2⟩
theorem pcMake_f (k : Nat) (hk : 1000 < k) {h : H} (w : WF h) (at_ ag ai sd bd : Int) :
    ∃ (q : Pc) (d : Sl) (h' : H), corbelhand_Piece.f k at_ ag ai sd bd h = some (q.tup d, h') ∧ Ch0 h h' ∧ SlR 1 h' d (byt q.data) ∧ q.data.length ≤ 200 ∧ (∀ b, SlB d b → h.next ≤ b) ∧ (bd = 0 → q.right = true) := by
  unfold corbelhand_Piece.f
  rw [show [Value.int .i64 (0 : Int), Value.int .i64 (0 : Int), Value.int .i64 (0 : Int), Value.slice none 0 0] = pcV 0 0 0 ⟨none, 0, 0⟩ from rfl]
  obtain ⟨z1, z2, z3⟩ := newR_ok w 69 4 (pcV 0 0 0 ⟨none, 0, 0⟩)
  generalize newR h 69 4 (pcV 0 0 0 ⟨none, 0, 0⟩) = g0 at z1 z2 z3 ⊢
  have P : ∀ (n m : Int) (h0 : 0 < m) (h1 : m ≤ 4611686018427387904) (g : H), corbelhand_Pick.f k n m g = some (n % m, g) := fun n m h0 h1 g => pick_f k n m g h0 h1
  simp only [P at_ 40 (by decide) (by decide), P ag 9 (by decide) (by decide), P ai 6 (by decide) (by decide), Option.bind_some]
  obtain ⟨dd, x, g, f1, f2, f3, f4, f5⟩ := hbytes_f k sd 32 (by decide) (by omega) z1.wf
  rw [show (32 : Int) = Int.ofNat 32 from rfl, f1]
  have G9 : 0 ≤ ag % 9 ∧ ag % 9 < 9 := ⟨Int.emod_nonneg _ (by decide), Int.emod_lt_of_pos _ (by decide)⟩
  have G40 : 0 ≤ at_ % 40 ∧ at_ % 40 < 40 := ⟨Int.emod_nonneg _ (by decide), Int.emod_lt_of_pos _ (by decide)⟩
  have G6 : 0 ≤ ai % 6 ∧ ai % 6 < 6 := ⟨Int.emod_nonneg _ (by decide), Int.emod_lt_of_pos _ (by decide)⟩
  rw [wrap_in (n := 1 + ag % 9) (by omega) (by omega)]
  simp only [Option.bind_some]
  rw [show [Value.int .i64 (at_ % 40), Value.int .i64 (1 + ag % 9), Value.int .i64 (ai % 6), Value.slice dd.a dd.n dd.c] = pcV (at_ % 40) (1 + ag % 9) (ai % 6) dd from rfl]
  obtain ⟨g2, p1, p2, p3, p4⟩ := box_ok f2.wf 69 4 (pcV 0 0 0 ⟨none, 0, 0⟩) (pcV (at_ % 40) (1 + ag % 9) (ai % 6) dd) rfl rfl rfl
  rw [p1]
  simp only [Option.bind_some, P bd 24 (by decide) (by decide)]
  have B2 : PcBx (bd = 0) g0 g g2 := ⟨f2.then p2, f2.le, by omega, ⟨at_ % 40, 1 + ag % 9, ai % 6, x⟩, dd, p4, f4.slr.stay f2.wf p2, by show x.length ≤ 200; omega, fun b hb => ⟨by have := f5 b hb; omega, by have := f4.lt f2.wf hb; omega⟩, fun _ => (Pc.right_iff _).2 ⟨G40.1, G40.2, by show 1 ≤ 1 + ag % 9; omega, by show 1 + ag % 9 ≤ _; omega, G6.1, G6.2, f3⟩⟩
  have J : ∃ h3, (cond (bd % 24 == (19 : Int)) ((stv 1 g2 (some ⟨g.next, 0, none⟩) [(Value.int .i64 at_)]).bind fun q7 => some ((), q7.2)) ((cond (bd % 24 == (20 : Int)) ((stv 1 g2 (some ⟨g.next, 1, none⟩) [(Value.int .i64 ag)]).bind fun q7 => some ((), q7.2)) ((cond (bd % 24 == (21 : Int)) ((stv 1 g2 (some ⟨g.next, 2, none⟩) [(Value.int .i64 ai)]).bind fun q7 => some ((), q7.2)) ((cond (bd % 24 == (22 : Int)) ((corbelhand_Pick.f k (wrapA .i64 (bd.tdiv (24 : Int))) (40 : Int) g2).bind fun q10 => (corbelhand_Bytes.f k sd q10.1 q10.2).bind fun q11 => (stv 1 q11.2 (some ⟨g.next, 3, none⟩) [(Value.slice q11.1.a q11.1.n q11.1.c)]).bind fun q12 => some ((), q12.2)) ((cond (bd % 24 == (23 : Int)) ((corbelhand_Pick.f k ag (1099511627776 : Int) g2).bind fun q13 => (stv 1 q13.2 (some ⟨g.next, 1, none⟩) [(Value.int .i64 (wrapA .i64 ((1 : Int) + q13.1)))]).bind fun q14 => some ((), q14.2)) (some ((), g2)) : Option (Unit × H)).bind fun j => some ((), j.2)) : Option (Unit × H)).bind fun j => some ((), j.2)) : Option (Unit × H)).bind fun j => some ((), j.2)) : Option (Unit × H)).bind fun j => some ((), j.2)) : Option (Unit × H)) = some ((), h3) ∧ PcBx (bd = 0) g0 g h3 := by
    by_cases hR : bd = 0
    · subst hR
      exact ⟨g2, rfl, B2⟩
    obtain ⟨m, hm⟩ : ∃ m : Nat, wrapA .i64 (bd.tdiv 24) % 40 = Int.ofNat m := ⟨_, nn _ (Int.emod_nonneg _ (by decide))⟩
    have hm2 : m < 40 := by have := Int.emod_lt_of_pos (wrapA .i64 (bd.tdiv 24)) (show (0 : Int) < 40 by decide); rw [hm] at this; simp only [Int.ofNat_eq_natCast] at this; omega
    obtain ⟨x1, u1, v1⟩ := B2.put hR 0 (by decide) at_
    obtain ⟨x2, u2, v2⟩ := B2.put hR 1 (by decide) ag
    obtain ⟨x3, u3, v3⟩ := B2.put hR 2 (by decide) ai
    obtain ⟨d5, x5', x5, u5, u5', v5⟩ := B2.bytes k hk hR sd m (by omega) (wrapA .i64 (bd.tdiv 24) % 40) hm
    obtain ⟨x6, u6, v6⟩ := B2.put hR 1 (by decide) (wrapA .i64 (1 + ag % 1099511627776))
    simp only [P (wrapA .i64 (bd.tdiv 24)) 40 (by decide) (by decide), P ag 1099511627776 (by decide) (by decide), Option.bind_some]
    rw [u1, u2, u3, u5, u6]
    simp only [Option.bind_some]
    rw [u5']
    simp only [Option.bind_some]
    cases (bd % 24 == (19 : Int)) with
    | true => exact ⟨x1, rfl, v1⟩
    | false =>
      cases (bd % 24 == (20 : Int)) with
      | true => exact ⟨x2, rfl, v2⟩
      | false =>
        cases (bd % 24 == (21 : Int)) with
        | true => exact ⟨x3, rfl, v3⟩
        | false =>
          cases (bd % 24 == (22 : Int)) with
          | true => exact ⟨x5, rfl, v5⟩
          | false =>
            cases (bd % 24 == (23 : Int)) with
            | true => exact ⟨x6, rfl, v6⟩
            | false =>
              exact ⟨g2, rfl, B2⟩
  obtain ⟨h3, j1, B3⟩ := J
  rw [j1]
  simp only [Option.bind_some]
  obtain ⟨q, d, I, h1, h2, h3', h4⟩ := B3.box
  rw [show q.vs d = pcV q.st q.gn q.ix d from rfl] at I
  rw [Is.pc I, bindPc]
  dsimp only
  obtain ⟨h5, x1, x2, x3, x4⟩ := Is.whole B3.ch.wf (z3.stay z1.wf B3.ch) rfl (pcV q.st q.gn q.ix d) rfl rfl
  rw [show [Value.int .i64 q.st, Value.int .i64 q.gn, Value.int .i64 q.ix, Value.slice d.a d.n d.c] = pcV q.st q.gn q.ix d from rfl, x1]
  simp only [Option.bind_some]
  rw [Is.pc x4, bindPc]
  exact ⟨q, d, h5, rfl, Ch0.at (z1.then B3.ch) x2 (Nat.le_refl _), h1.keep fun b hb => x2.keep b (h1.blk B3.ch.wf hb) (by have := (h3' b hb).1; omega), h2, (fun b hb => by have := (h3' b hb).1; omega), h4⟩

/-! ### It made -/
structure ItBx (R : Prop) (g0 g h : H) : Prop where
  ch : Ch0 g0 h
  gl : g0.next ≤ g.next
  lt : g.next < h.next
  box : ∃ (q : It) (d : Sl), Is h g.next 72 3 (q.vs d) ∧ SlR 1 h d (byt q.data) ∧ q.data.length ≤ 200 ∧ (∀ b, SlB d b → g0.next ≤ b ∧ b ≠ g.next) ∧ (R → q.right = true)
theorem ItBx.put {R : Prop} {g0 g h : H} (B : ItBx R g0 g h) (hR : ¬ R) (i : Nat) (hi : i < 2) (v : Int) : ∃ h', stv 1 h (some ⟨g.next, i, none⟩) [.int .i64 v] = some (undef, h') ∧ ItBx R g0 g h' := by
  obtain ⟨q, d, I, h1, h2, h3, h4⟩ := B.box
  obtain ⟨h', e1, e2, e3, e4⟩ := I.set B.ch.wf i (.int .i64 v) (by show i < 3; omega) rfl
  have k : SlR 1 h' d (byt q.data) := h1.keep fun b hb => e2.keep b (h1.blk B.ch.wf hb) (h3 b hb).2
  refine ⟨h', e1, Ch0.at B.ch e2 B.gl, B.gl, by rw [e3]; exact B.lt, ?_⟩
  have : i = 0 ∨ i = 1 := by omega
  rcases this with rfl | rfl
  · exact ⟨⟨v, q.gn, q.data⟩, d, e4, k, h2, h3, fun f => absurd f hR⟩
  · exact ⟨⟨q.st, v, q.data⟩, d, e4, k, h2, h3, fun f => absurd f hR⟩
theorem ItBx.dat {R : Prop} {g0 g h : H} (B : ItBx R g0 g h) (hR : ¬ R) {d : Sl} {x : List UInt8} (r : SlR 1 h d (byt x)) (hx : x.length ≤ 200) (hb : ∀ b, SlB d b → g.next < b) : ∃ h', stv 1 h (some ⟨g.next, 2, none⟩) [.slice d.a d.n d.c] = some (undef, h') ∧ ItBx R g0 g h' := by
  obtain ⟨q, d', I, h1, h2, h3, h4⟩ := B.box
  obtain ⟨h', e1, e2, e3, e4⟩ := I.set B.ch.wf 2 (slv d) (by show 2 < 3; decide) rfl
  exact ⟨h', e1, Ch0.at B.ch e2 B.gl, B.gl, by rw [e3]; exact B.lt, ⟨q.st, q.gn, x⟩, d, e4, r.keep fun b hb' => e2.keep b (r.blk B.ch.wf hb') (by have := hb b hb'; omega), hx, (fun b hb' => by have := hb b hb'; have := B.gl; omega), fun f => absurd f hR⟩
theorem ItBx.more {R : Prop} {g0 g h h' : H} (B : ItBx R g0 g h) (c : Ch0 h h') : ItBx R g0 g h' := by
  obtain ⟨q, d, I, h1, h2, h3, h4⟩ := B.box
  exact ⟨B.ch.then c, B.gl, Nat.lt_of_lt_of_le B.lt c.le, q, d, I.stay B.ch.wf c, h1.stay B.ch.wf c, h2, h3, h4⟩
theorem ItBx.bytes {R : Prop} (k : Nat) (hk : 1000 < k) {g0 g h : H} (B : ItBx R g0 g h) (hR : ¬ R) (a : Int) (m : Nat) (hm : m ≤ 200) (n : Int) (hn : n = Int.ofNat m) :
    ∃ d h1 h2, corbelhand_Bytes.f k a n h = some (d, h1) ∧ stv 1 h1 (some ⟨g.next, 2, none⟩) [.slice d.a d.n d.c] = some (undef, h2) ∧ ItBx R g0 g h2 := by
  subst hn
  obtain ⟨d, x, h1, f1, f2, f3, f4, f5⟩ := hbytes_f k a m (by omega) (by omega) B.ch.wf
  obtain ⟨h2, u1, u2⟩ := (B.more f2).dat hR f4.slr (by omega) fun b hb => by have := f5 b hb; have := B.lt; omega
  exact ⟨d, h1, h2, f1, u1, u2⟩
theorem itMake_f (k : Nat) (hk : 1000 < k) {h : H} (w : WF h) (at_ ag sd bd : Int) :
    ∃ (q : It) (d : Sl) (h' : H), corbelhand_Intent.f k at_ ag sd bd h = some (q.tup d, h') ∧ Ch0 h h' ∧ SlR 1 h' d (byt q.data) ∧ q.data.length ≤ 200 ∧ (∀ b, SlB d b → h.next ≤ b) ∧ (bd = 0 → q.right = true) := by
  unfold corbelhand_Intent.f
  rw [show [Value.int .i64 (0 : Int), Value.int .i64 (0 : Int), Value.slice none 0 0] = itV 0 0 ⟨none, 0, 0⟩ from rfl]
  obtain ⟨z1, z2, z3⟩ := newR_ok w 72 3 (itV 0 0 ⟨none, 0, 0⟩)
  generalize newR h 72 3 (itV 0 0 ⟨none, 0, 0⟩) = g0 at z1 z2 z3 ⊢
  have P : ∀ (n m : Int) (h0 : 0 < m) (h1 : m ≤ 4611686018427387904) (g : H), corbelhand_Pick.f k n m g = some (n % m, g) := fun n m h0 h1 g => pick_f k n m g h0 h1
  simp only [P at_ 40 (by decide) (by decide), P ag 9 (by decide) (by decide), Option.bind_some]
  obtain ⟨dd, x, g, f1, f2, f3, f4, f5⟩ := hbytes_f k sd 128 (by decide) (by omega) z1.wf
  rw [show (128 : Int) = Int.ofNat 128 from rfl, f1]
  have G9 : 0 ≤ ag % 9 ∧ ag % 9 < 9 := ⟨Int.emod_nonneg _ (by decide), Int.emod_lt_of_pos _ (by decide)⟩
  have G40 : 0 ≤ at_ % 40 ∧ at_ % 40 < 40 := ⟨Int.emod_nonneg _ (by decide), Int.emod_lt_of_pos _ (by decide)⟩
  rw [wrap_in (n := 1 + ag % 9) (by omega) (by omega)]
  simp only [Option.bind_some]
  rw [show [Value.int .i64 (at_ % 40), Value.int .i64 (1 + ag % 9), Value.slice dd.a dd.n dd.c] = itV (at_ % 40) (1 + ag % 9) dd from rfl]
  obtain ⟨g2, p1, p2, p3, p4⟩ := box_ok f2.wf 72 3 (itV 0 0 ⟨none, 0, 0⟩) (itV (at_ % 40) (1 + ag % 9) dd) rfl rfl rfl
  rw [p1]
  simp only [Option.bind_some, P bd 24 (by decide) (by decide)]
  have B2 : ItBx (bd = 0) g0 g g2 := ⟨f2.then p2, f2.le, by omega, ⟨at_ % 40, 1 + ag % 9, x⟩, dd, p4, f4.slr.stay f2.wf p2, by show x.length ≤ 200; omega, fun b hb => ⟨by have := f5 b hb; omega, by have := f4.lt f2.wf hb; omega⟩, fun _ => (It.right_iff _).2 ⟨G40.1, G40.2, by show 1 ≤ 1 + ag % 9; omega, by show 1 + ag % 9 ≤ _; omega, f3⟩⟩
  have J : ∃ h3, (cond (bd % 24 == (20 : Int)) ((stv 1 g2 (some ⟨g.next, 0, none⟩) [(Value.int .i64 at_)]).bind fun q7 => some ((), q7.2)) ((cond (bd % 24 == (21 : Int)) ((stv 1 g2 (some ⟨g.next, 1, none⟩) [(Value.int .i64 ag)]).bind fun q7 => some ((), q7.2)) ((cond (bd % 24 == (22 : Int)) ((corbelhand_Pick.f k (wrapA .i64 (bd.tdiv (24 : Int))) (140 : Int) g2).bind fun q10 => (corbelhand_Bytes.f k sd q10.1 q10.2).bind fun q11 => (stv 1 q11.2 (some ⟨g.next, 2, none⟩) [(Value.slice q11.1.a q11.1.n q11.1.c)]).bind fun q12 => some ((), q12.2)) ((cond (bd % 24 == (23 : Int)) ((corbelhand_Pick.f k ag (1099511627776 : Int) g2).bind fun q13 => (stv 1 q13.2 (some ⟨g.next, 1, none⟩) [(Value.int .i64 (wrapA .i64 ((1 : Int) + q13.1)))]).bind fun q14 => some ((), q14.2)) (some ((), g2)) : Option (Unit × H)).bind fun j => some ((), j.2)) : Option (Unit × H)).bind fun j => some ((), j.2)) : Option (Unit × H)).bind fun j => some ((), j.2)) : Option (Unit × H)) = some ((), h3) ∧ ItBx (bd = 0) g0 g h3 := by
    by_cases hR : bd = 0
    · subst hR
      exact ⟨g2, rfl, B2⟩
    obtain ⟨m, hm⟩ : ∃ m : Nat, wrapA .i64 (bd.tdiv 24) % 140 = Int.ofNat m := ⟨_, nn _ (Int.emod_nonneg _ (by decide))⟩
    have hm2 : m < 140 := by have := Int.emod_lt_of_pos (wrapA .i64 (bd.tdiv 24)) (show (0 : Int) < 140 by decide); rw [hm] at this; simp only [Int.ofNat_eq_natCast] at this; omega
    obtain ⟨x1, u1, v1⟩ := B2.put hR 0 (by decide) at_
    obtain ⟨x2, u2, v2⟩ := B2.put hR 1 (by decide) ag
    obtain ⟨d5, x5', x5, u5, u5', v5⟩ := B2.bytes k hk hR sd m (by omega) (wrapA .i64 (bd.tdiv 24) % 140) hm
    obtain ⟨x6, u6, v6⟩ := B2.put hR 1 (by decide) (wrapA .i64 (1 + ag % 1099511627776))
    simp only [P (wrapA .i64 (bd.tdiv 24)) 140 (by decide) (by decide), P ag 1099511627776 (by decide) (by decide), Option.bind_some]
    rw [u1, u2, u5, u6]
    simp only [Option.bind_some]
    rw [u5']
    simp only [Option.bind_some]
    cases (bd % 24 == (20 : Int)) with
    | true => exact ⟨x1, rfl, v1⟩
    | false =>
      cases (bd % 24 == (21 : Int)) with
      | true => exact ⟨x2, rfl, v2⟩
      | false =>
        cases (bd % 24 == (22 : Int)) with
        | true => exact ⟨x5, rfl, v5⟩
        | false =>
          cases (bd % 24 == (23 : Int)) with
          | true => exact ⟨x6, rfl, v6⟩
          | false =>
            exact ⟨g2, rfl, B2⟩
  obtain ⟨h3, j1, B3⟩ := J
  rw [j1]
  simp only [Option.bind_some]
  obtain ⟨q, d, I, h1, h2, h3', h4⟩ := B3.box
  rw [show q.vs d = itV q.st q.gn d from rfl] at I
  rw [Is.it I, bindIt]
  dsimp only
  obtain ⟨h5, x1, x2, x3, x4⟩ := Is.whole B3.ch.wf (z3.stay z1.wf B3.ch) rfl (itV q.st q.gn d) rfl rfl
  rw [show [Value.int .i64 q.st, Value.int .i64 q.gn, Value.slice d.a d.n d.c] = itV q.st q.gn d from rfl, x1]
  simp only [Option.bind_some]
  rw [Is.it x4, bindIt]
  exact ⟨q, d, h5, rfl, Ch0.at (z1.then B3.ch) x2 (Nat.le_refl _), h1.keep fun b hb => x2.keep b (h1.blk B3.ch.wf hb) (by have := (h3' b hb).1; omega), h2, (fun b hb => by have := (h3' b hb).1; omega), h4⟩
end Go.Proofs.Ythpkhegoamhgeaa.Fw
