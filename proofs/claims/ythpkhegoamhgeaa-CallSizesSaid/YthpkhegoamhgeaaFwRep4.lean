/- call's replies: bytes read. No condition. -/
import Derived.Test.YthpkhegoamhgeaaFwRep3
namespace Go.Proofs.Ythpkhegoamhgeaa.Fw
open Go Den Fwd
set_option linter.unusedVariables false
set_option linter.unusedSimpArgs false
theorem takeP_app {a : List UInt8} {n : Nat} (h : a.length = n) (r : List UInt8) : takeP (a ++ r) n = (a, r) ∧ ¬ (a ++ r).length < n := by
  subst h
  have : ¬ (a ++ r).length < a.length := by rw [List.length_append]; omega
  refine ⟨?_, this⟩
  unfold takeP
  rw [if_neg this, List.take_left, List.drop_left]
def numP (x : List UInt8) (n : Nat) : Int := Int.ofNat (unbe (takeP x n).1)
theorem numP_be {n s : Nat} (h : n < 256 ^ s) (r : List UInt8) : numP (beN n s ++ r) s = Int.ofNat n := by
  unfold numP
  rw [(takeP_app (beN_len n s) r).1, unbe_be h]
def lackP (l : Bool) (x : List UInt8) (n : Nat) : Bool := l || decide (x.length < n)
theorem lackP_app {a : List UInt8} {n : Nat} (h : a.length = n) (r : List UInt8) : lackP false (a ++ r) n = false := by
  unfold lackP
  rw [decide_eq_false (takeP_app h r).2]; rfl
structure RdS (h : H) (rb : Nat) (s : Sl) (lk : Bool) (x : List UInt8) : Prop where
  box : Is h rb 92 2 [slv s, .bool lk]
  sl : SlR 1 h s (byt x)
  lt : ∀ b, SlB s b → b < rb
  len : x.length ≤ 140737488355328
theorem RdS.keep {h h' : H} {rb : Nat} {s : Sl} {lk : Bool} {x : List UInt8} (w : WF h) (R : RdS h rb s lk x) {F : Nat → Prop} (c : Ch F h h') (hF : ∀ z, z ≤ rb → ¬ F z) : RdS h' rb s lk x :=
  ⟨R.box.keep (c.keep rb (R.box.lt w) (hF rb (Nat.le_refl _))), R.sl.keep fun b hb => c.keep b (R.sl.blk w hb) (hF b (Nat.le_of_lt (R.lt b hb))), R.lt, R.len⟩
theorem RdS.num (k : Nat) (hk : 1000 < k) {h : H} (w : WF h) {rb : Nat} {s : Sl} {lk : Bool} {x : List UInt8} (R : RdS h rb s lk x) (n : Nat) (hn : n ≤ 7) (m : Int) (hm : m = Int.ofNat n) :
    ∃ s' h', call_reader_number.f k (some ⟨rb, 0, none⟩) m h = some (numP x n, h') ∧ Ch (fun b => b = rb) h h' ∧ RdS h' rb s' (lackP lk x n) (takeP x n).2 := by
  obtain ⟨s', h', a1, a2, a3, a4, a5⟩ := cnumber_f k hk w R.box R.sl (fun f => by have := R.lt _ f; omega) R.len n hn m hm
  exact ⟨s', h', a1, a2, a3, a4, fun b hb => R.lt b (a5 b hb), by have := (takeP_len x n).1; have := R.len; omega⟩
theorem RdS.tak (k : Nat) {h : H} (w : WF h) {rb : Nat} {s : Sl} {lk : Bool} {x : List UInt8} (R : RdS h rb s lk x) (n : Nat) (m : Int) (hm : m = Int.ofNat n) :
    ∃ s' t h', call_reader_take.f k (some ⟨rb, 0, none⟩) m h = some (t, h') ∧ Ch (fun b => b = rb) h h' ∧ RdS h' rb s' (lackP lk x n) (takeP x n).2 ∧ SlR 1 h' t (byt (takeP x n).1) ∧ (∀ b, SlB t b → h.next ≤ b) := by
  subst hm
  obtain ⟨s', t, h', a1, a2, a3, a4, a5, a6, a7⟩ := take_f k w R.box R.sl (fun f => by have := R.lt _ f; omega) R.len n
  exact ⟨s', t, h', a1, a2, ⟨a3, a4, fun b hb => R.lt b (a6 b hb), by have := (takeP_len x n).1; have := R.len; omega⟩, a5, a7⟩
def pcsP : Nat → List Pc → List UInt8 → Bool → List Pc × List UInt8 × Bool
  | 0, a, x, l => (a, x, l)
  | n + 1, a, x, l =>
    let x1 := (takeP x 1).2
    let x2 := (takeP x1 6).2
    let x3 := (takeP x2 1).2
    pcsP n (a ++ [⟨numP x 1, numP x1 6, numP x2 1, (takeP x3 32).1⟩]) (takeP x3 32).2 (lackP (lackP (lackP (lackP l x 1) x1 6) x2 1) x3 32)
def itsP : Nat → List It → List UInt8 → Bool → List It × List UInt8 × Bool
  | 0, a, x, l => (a, x, l)
  | n + 1, a, x, l =>
    let x1 := (takeP x 1).2
    let x2 := (takeP x1 6).2
    itsP n (a ++ [⟨numP x 1, numP x1 6, (takeP x2 128).1⟩]) (takeP x2 128).2 (lackP (lackP (lackP l x 1) x1 6) x2 128)
theorem pcsP_lay : ∀ (l acc : List Pc) (r : List UInt8), (∀ q ∈ l, q.right = true) → pcsP l.length acc (laysPc l ++ r) false = (acc ++ l, r, false)
  | [], acc, r, _ => by show (acc, r, false) = _; rw [List.append_nil]
  | q :: l, acc, r, h => by
    have R := (Pc.right_iff q).1 (h q List.mem_cons_self)
    have r0 := R.s0
    have r1 := R.s1
    have r2 := R.g0
    have r3 := R.g1
    have r4 := R.i0
    have r5 := R.i1
    have e : laysPc (q :: l) ++ r = beN q.st.toNat 1 ++ (beN q.gn.toNat 6 ++ (beN q.ix.toNat 1 ++ (q.data ++ (laysPc l ++ r)))) := by
      rw [laysPc_cons]; unfold layPc; simp only [List.append_assoc]
    rw [e, List.length_cons]
    unfold pcsP
    dsimp only
    rw [(takeP_app (beN_len _ 1) _).1]
    dsimp only
    rw [(takeP_app (beN_len _ 6) _).1]
    dsimp only
    rw [(takeP_app (beN_len _ 1) _).1]
    dsimp only
    rw [(takeP_app R.dl _).1]
    dsimp only
    rw [lackP_app (beN_len _ 1), lackP_app (beN_len _ 6), lackP_app (beN_len _ 1), lackP_app R.dl]
    rw [numP_be (show q.st.toNat < 256 ^ 1 by omega), numP_be (show q.gn.toNat < 256 ^ 6 by omega), numP_be (show q.ix.toNat < 256 ^ 1 by omega)]
    rw [← nn _ r0, ← nn _ (show 0 ≤ q.gn by omega), ← nn _ r4]
    rw [pcsP_lay l _ r fun p hp => h p (List.mem_cons_of_mem _ hp)]
    simp
theorem itsP_lay : ∀ (l acc : List It) (r : List UInt8), (∀ q ∈ l, q.right = true) → itsP l.length acc (laysIt l ++ r) false = (acc ++ l, r, false)
  | [], acc, r, _ => by show (acc, r, false) = _; rw [List.append_nil]
  | q :: l, acc, r, h => by
    have R := (It.right_iff q).1 (h q List.mem_cons_self)
    have r0 := R.s0
    have r1 := R.s1
    have r2 := R.g0
    have r3 := R.g1
    have e : laysIt (q :: l) ++ r = beN q.st.toNat 1 ++ (beN q.gn.toNat 6 ++ (q.data ++ (laysIt l ++ r))) := by
      rw [laysIt_cons]; unfold layIt; simp only [List.append_assoc]
    rw [e, List.length_cons]
    unfold itsP
    dsimp only
    rw [(takeP_app (beN_len _ 1) _).1]
    dsimp only
    rw [(takeP_app (beN_len _ 6) _).1]
    dsimp only
    rw [(takeP_app R.dl _).1]
    dsimp only
    rw [lackP_app (beN_len _ 1), lackP_app (beN_len _ 6), lackP_app R.dl]
    rw [numP_be (show q.st.toNat < 256 ^ 1 by omega), numP_be (show q.gn.toNat < 256 ^ 6 by omega)]
    rw [← nn _ r0, ← nn _ (show 0 ≤ q.gn by omega)]
    rw [itsP_lay l _ r fun p hp => h p (List.mem_cons_of_mem _ hp)]
    simp
/-- what stands behind code, boot, count -/
def pst1 (x : List UInt8) : List UInt8 := (takeP (takeP (takeP x 1).2 4).2 1).2
def plk1 (x : List UInt8) : Bool := lackP (lackP (lackP false x 1) (takeP x 1).2 4) (takeP (takeP x 1).2 4).2 1
def pN (x : List UInt8) : Nat := unbe (takeP (takeP (takeP x 1).2 4).2 1).1
def pP (x : List UInt8) : List Pc × List UInt8 × Bool := pcsP (pN x) [] (pst1 x) (plk1 x)
def iN (x : List UInt8) : Nat := unbe (takeP (pP x).2.1 1).1
def iP (x : List UInt8) : List It × List UInt8 × Bool := itsP (iN x) [] (takeP (pP x).2.1 1).2 (lackP (pP x).2.2 (pP x).2.1 1)
def parseRr (x : List UInt8) : Rr := ⟨numP x 1, numP (takeP x 1).2 4, (pP x).1, (iP x).1⟩
def readRr (x : List UInt8) : Option Rr := if (iP x).2.2 = false ∧ (parseRr x).right = true ∧ layRr (parseRr x) = x then some (parseRr x) else none
def Rr.zero : Rr := ⟨0, 0, [], []⟩
theorem readRr_lay (q : Rr) (h : q.right = true) : readRr (layRr q) = some q := by
  have R := (Rr.right_iff q).1 h
  have c0 := R.c0
  have c1 := R.c1
  have b0 := R.b0
  have b1 := R.b1
  have pl := R.pl
  have il := R.il
  have e1 : takeP (layRr q) 1 = (beN q.code.toNat 1, beN q.boot.toNat 4 ++ (beN q.ps.length 1 ++ (laysPc q.ps ++ (beN q.is.length 1 ++ laysIt q.is)))) := (takeP_app (beN_len _ 1) _).1
  have l1 : lackP false (layRr q) 1 = false := lackP_app (beN_len _ 1) _
  have n1 : numP (layRr q) 1 = q.code := by
    have := numP_be (show q.code.toNat < 256 ^ 1 by omega) (beN q.boot.toNat 4 ++ (beN q.ps.length 1 ++ (laysPc q.ps ++ (beN q.is.length 1 ++ laysIt q.is))))
    rw [← nn _ c0] at this; exact this
  have e2 := (takeP_app (beN_len q.boot.toNat 4) (beN q.ps.length 1 ++ (laysPc q.ps ++ (beN q.is.length 1 ++ laysIt q.is)))).1
  have n2 := numP_be (show q.boot.toNat < 256 ^ 4 by omega) (beN q.ps.length 1 ++ (laysPc q.ps ++ (beN q.is.length 1 ++ laysIt q.is)))
  rw [← nn _ b0] at n2
  have e3 := (takeP_app (beN_len q.ps.length 1) (laysPc q.ps ++ (beN q.is.length 1 ++ laysIt q.is))).1
  have hN : pN (layRr q) = q.ps.length := by unfold pN; rw [e1, e2, e3]; exact unbe_be (by omega)
  have hP : pP (layRr q) = (q.ps, beN q.is.length 1 ++ laysIt q.is, false) := by
    unfold pP
    rw [hN, show pst1 (layRr q) = laysPc q.ps ++ (beN q.is.length 1 ++ laysIt q.is) by unfold pst1; rw [e1, e2, e3], show plk1 (layRr q) = false by unfold plk1; rw [l1, e1]; dsimp only; rw [lackP_app (beN_len _ 4), e2]; dsimp only; rw [lackP_app (beN_len _ 1)]]
    rw [pcsP_lay _ _ _ R.pr]; rfl
  have hM : iN (layRr q) = q.is.length := by unfold iN; rw [hP]; dsimp only; rw [(takeP_app (beN_len _ 1) _).1]; exact unbe_be (by omega)
  have hI : iP (layRr q) = (q.is, [], false) := by
    unfold iP
    rw [hM, hP]
    dsimp only
    rw [(takeP_app (beN_len _ 1) _).1, lackP_app (beN_len _ 1)]
    dsimp only
    have := itsP_lay q.is [] [] R.ir
    rw [List.append_nil] at this
    rw [this]; rfl
  have hq : parseRr (layRr q) = q := by
    unfold parseRr
    rw [n1, hP, hI, e1]
    dsimp only
    rw [n2]
  unfold readRr
  rw [hI, hq, if_pos ⟨rfl, h, rfl⟩]
theorem readRr_some {x : List UInt8} {q : Rr} (h : readRr x = some q) : q.right = true ∧ layRr q = x := by
  unfold readRr at h
  split at h
  · rename_i c
    cases h
    exact c.2
  · cases h
/-- one is no beginning of another -/
theorem layRr_pre {p q : Rr} (hp : p.right = true) (hq : q.right = true) {t : List UInt8} (h : layRr p ++ t = layRr q) : t = [] := by
  have P := (Rr.right_iff p).1 hp
  have Q := (Rr.right_iff q).1 hq
  have p1 := P.pl
  have p2 := P.il
  have q1 := Q.pl
  have q2 := Q.il
  unfold layRr at h
  simp only [List.append_assoc] at h
  have h1 := (List.append_inj h (by simp only [beN_len])).2
  have h2 := (List.append_inj h1 (by simp only [beN_len])).2
  obtain ⟨h3, h4⟩ := List.append_inj h2 (by simp only [beN_len])
  have e1 := be_inj (s := 1) (by omega) (by omega) h3
  have h5 := (List.append_inj h4 (by rw [laysPc_len _ P.pr, laysPc_len _ Q.pr, e1])).2
  obtain ⟨h6, h7⟩ := List.append_inj h5 (by simp only [beN_len])
  have e2 := be_inj (s := 1) (by omega) (by omega) h6
  have := congrArg List.length h7
  rw [List.length_append, laysIt_len _ P.ir, laysIt_len _ Q.ir, e2] at this
  exact List.length_eq_zero_iff.1 (by omega)
theorem readRr_short {q : Rr} (h : q.right = true) {n : Nat} (hn : n < (layRr q).length) : readRr ((layRr q).take n) = none := by
  cases e : readRr ((layRr q).take n) with
  | none => rfl
  | some p =>
    obtain ⟨h1, h2⟩ := readRr_some e
    have := layRr_pre h1 h (t := (layRr q).drop n) (by rw [h2, List.take_append_drop])
    have := congrArg List.length this
    rw [List.length_drop] at this
    simp at this
    omega
theorem readRr_long {q : Rr} (h : q.right = true) (c : UInt8) : readRr (layRr q ++ [c]) = none := by
  cases e : readRr (layRr q ++ [c]) with
  | none => rfl
  | some p =>
    obtain ⟨h1, h2⟩ := readRr_some e
    have := layRr_pre h h1 (t := [c]) h2.symm
    cases this

theorem rdPc_l (k : Nat) (hk : 1000 < k) {rb pb : Nat} (hrp : rb < pb) (a0 : Sl) (x7 : Option Addr) (c b : Int) (N : Nat) (hN : N ≤ 255) : ∀ n j h s lk x sp si (ps : PcS) (is : ItS), N - j < n → j ≤ N → WF h → RdS h rb s lk x → Bd h pb c b sp si ps is → ps.length ≤ j →
    ∃ h' s' sp' ps', call_ReadRep.l0 k n a0 x7 (some ⟨rb, 0, none⟩) (some ⟨pb, 0, none⟩) (Int.ofNat N) (Int.ofNat j) h = some ((), h') ∧ Ch (fun z => rb ≤ z) h h' ∧ RdS h' rb s' (pcsP (N - j) (ps.map (·.1)) x lk).2.2 (pcsP (N - j) (ps.map (·.1)) x lk).2.1 ∧ Bd h' pb c b sp' si ps' is ∧ ps'.map (·.1) = (pcsP (N - j) (ps.map (·.1)) x lk).1 ∧ ps'.length ≤ N
  | 0, j, h, s, lk, x, sp, si, ps, is, hn, _, _, _, _, _ => by omega
  | n + 1, j, h, s, lk, x, sp, si, ps, is, hn, hj, w, R, B, hl => by
    rw [call_ReadRep.l0_succ]
    by_cases cj : j < N
    · rw [decide_eq_true (show Int.ofNat j < Int.ofNat N by simp; omega), cond_true]
      simp only [nilA, asP_ptr, Option.bind_some, fadd, Nat.zero_add]
      rw [B.box.ldc]
      rw [show asS ((repV c b sp si)[2]?) = some sp from rfl]
      simp only [Option.bind_some]
      obtain ⟨s1, h1, a1, b1, R1⟩ := R.num k hk w 1 (by decide) 1 rfl
      rw [a1]
      simp only [Option.bind_some]
      have w1 := b1.wf
      have B1 := B.keep w b1 (fun z hz _ f => by omega)
      have m1 := same1_of (o := 2) (b1.keep pb (B.box.lt w) (by omega))
      obtain ⟨s2, h2, a2, b2, R2⟩ := R1.num k hk w1 6 (by decide) 6 rfl
      rw [a2]
      simp only [Option.bind_some]
      have w2 := b2.wf
      have B2 := B1.keep w1 b2 (fun z hz _ f => by omega)
      have m2 := same1_of (o := 2) (b2.keep pb (B1.box.lt w1) (by omega))
      obtain ⟨s3, h3, a3, b3, R3⟩ := R2.num k hk w2 1 (by decide) 1 rfl
      rw [a3]
      simp only [Option.bind_some]
      have w3 := b3.wf
      have B3 := B2.keep w2 b3 (fun z hz _ f => by omega)
      have m3 := same1_of (o := 2) (b3.keep pb (B2.box.lt w2) (by omega))
      obtain ⟨s4, t, h4, d1, d2, R4, d4, d5⟩ := R3.tak k w3 32 32 rfl
      rw [d1]
      simp only [Option.bind_some]
      have w4 := d2.wf
      have B4 := B3.keep w3 d2 (fun z hz _ f => by omega)
      have pbl := B.box.lt w
      have le3 : h.next ≤ h3.next := Nat.le_trans b1.le (Nat.le_trans b2.le b3.le)
      let q : Pc := ⟨numP x 1, numP (takeP x 1).2 6, numP (takeP (takeP x 1).2 6).2 1, (takeP (takeP (takeP (takeP x 1).2 6).2 1).2 32).1⟩
      have hb : ∀ z, SlB t z → pb < z ∧ ¬ SlB sp z ∧ ¬ SlB si z := fun z hz => ⟨by have := d5 z hz; omega, fun f => by have := d5 z hz; have := B3.op.lt w3 f; omega, fun f => by have := d5 z hz; have := B3.oi.lt w3 f; omega⟩
      obtain ⟨sn, g1, g2, e1, e2, e3, e4⟩ := B4.addP w4 q t d4 hb (by omega)
      rw [show [Value.int .i64 (numP x 1), Value.int .i64 (numP (takeP x 1).2 6), Value.int .i64 (numP (takeP (takeP x 1).2 6).2 1), Value.slice t.a t.n t.c] = q.vs t from rfl, e1]
      simp only [Option.bind_some]
      rw [e2]
      simp only [Option.bind_some]
      have m4 := same1_of (o := 2) (d2.keep pb (B3.box.lt w3) (by omega))
      simp only [m1, m2, m3, m4, Bool.and_self, cond_true]
      rw [wrap_succ (by omega)]
      have R5 := R4.keep w4 e3 (fun z hz => by omega)
      obtain ⟨h', s', sx, px, f1, f2, f3, f4, f5, f6⟩ := rdPc_l k hk hrp a0 x7 c b N hN n (j + 1) g2 s4 _ _ sn si (ps ++ [(q, t)]) is (by omega) (by omega) e3.wf R5 e4 (by rw [List.length_append, List.length_singleton]; omega)
      have un : pcsP (N - j) (ps.map (·.1)) x lk = pcsP (N - (j + 1)) ((ps ++ [(q, t)]).map (·.1)) (takeP (takeP (takeP (takeP x 1).2 6).2 1).2 32).2 (lackP (lackP (lackP (lackP lk x 1) (takeP x 1).2 6) (takeP (takeP x 1).2 6).2 1) (takeP (takeP (takeP x 1).2 6).2 1).2 32) := by
        rw [show N - j = (N - (j + 1)) + 1 by omega, List.map_append]; rfl
      rw [un]
      refine ⟨h', s', sx, px, f1, ?_, f3, f4, f5, f6⟩
      exact (((((b1.mono fun z _ f => by omega).trans b2 fun z _ f => by omega).trans b3 fun z _ f => by omega).trans d2 fun z _ f => by omega).trans e3 fun z _ f => by omega).trans f2 fun z _ f => f
    · rw [decide_eq_false (show ¬ Int.ofNat j < Int.ofNat N by simp; omega), cond_false]
      rw [show N - j = 0 by omega]
      exact ⟨h, s, sp, ps, rfl, Ch.refl w, R, B, rfl, by omega⟩

theorem rdIt_l (k : Nat) (hk : 1000 < k) {rb pb : Nat} (hrp : rb < pb) (a0 : Sl) (x7 : Option Addr) (c b : Int) (N : Nat) (hN : N ≤ 255) : ∀ n j h s lk x sp si (ps : PcS) (is : ItS), N - j < n → j ≤ N → WF h → RdS h rb s lk x → Bd h pb c b sp si ps is → is.length ≤ j →
    ∃ h' s' si' is', call_ReadRep.l1 k n a0 x7 (some ⟨rb, 0, none⟩) (some ⟨pb, 0, none⟩) (Int.ofNat N) (Int.ofNat j) h = some ((), h') ∧ Ch (fun z => rb ≤ z) h h' ∧ RdS h' rb s' (itsP (N - j) (is.map (·.1)) x lk).2.2 (itsP (N - j) (is.map (·.1)) x lk).2.1 ∧ Bd h' pb c b sp si' ps is' ∧ is'.map (·.1) = (itsP (N - j) (is.map (·.1)) x lk).1 ∧ is'.length ≤ N
  | 0, j, h, s, lk, x, sp, si, ps, is, hn, _, _, _, _, _ => by omega
  | n + 1, j, h, s, lk, x, sp, si, ps, is, hn, hj, w, R, B, hl => by
    rw [call_ReadRep.l1_succ]
    by_cases cj : j < N
    · rw [decide_eq_true (show Int.ofNat j < Int.ofNat N by simp; omega), cond_true]
      simp only [nilA, asP_ptr, Option.bind_some, fadd, Nat.zero_add]
      rw [B.box.ldc]
      rw [show asS ((repV c b sp si)[3]?) = some si from rfl]
      simp only [Option.bind_some]
      obtain ⟨s1, h1, a1, b1, R1⟩ := R.num k hk w 1 (by decide) 1 rfl
      rw [a1]
      simp only [Option.bind_some]
      have w1 := b1.wf
      have B1 := B.keep w b1 (fun z hz _ f => by omega)
      have m1 := same1_of (o := 3) (b1.keep pb (B.box.lt w) (by omega))
      obtain ⟨s2, h3, a2, b2, R3⟩ := R1.num k hk w1 6 (by decide) 6 rfl
      rw [a2]
      simp only [Option.bind_some]
      have w3 := b2.wf
      have B3 := B1.keep w1 b2 (fun z hz _ f => by omega)
      have m2 := same1_of (o := 3) (b2.keep pb (B1.box.lt w1) (by omega))
      obtain ⟨s4, t, h4, d1, d2, R4, d4, d5⟩ := R3.tak k w3 128 128 rfl
      rw [d1]
      simp only [Option.bind_some]
      have w4 := d2.wf
      have B4 := B3.keep w3 d2 (fun z hz _ f => by omega)
      have pbl := B.box.lt w
      have le3 : h.next ≤ h3.next := Nat.le_trans b1.le b2.le
      let q : It := ⟨numP x 1, numP (takeP x 1).2 6, (takeP (takeP (takeP x 1).2 6).2 128).1⟩
      have hb : ∀ z, SlB t z → pb < z ∧ ¬ SlB sp z ∧ ¬ SlB si z := fun z hz => ⟨by have := d5 z hz; omega, fun f => by have := d5 z hz; have := B3.op.lt w3 f; omega, fun f => by have := d5 z hz; have := B3.oi.lt w3 f; omega⟩
      obtain ⟨sn, g1, g2, e1, e2, e3, e4⟩ := B4.addI w4 q t d4 hb (by omega)
      rw [show [Value.int .i64 (numP x 1), Value.int .i64 (numP (takeP x 1).2 6), Value.slice t.a t.n t.c] = q.vs t from rfl, e1]
      simp only [Option.bind_some]
      rw [e2]
      simp only [Option.bind_some]
      have m4 := same1_of (o := 3) (d2.keep pb (B3.box.lt w3) (by omega))
      simp only [m1, m2, m4, Bool.and_self, cond_true]
      rw [wrap_succ (by omega)]
      have R5 := R4.keep w4 e3 (fun z hz => by omega)
      obtain ⟨h', s', sx, px, f1, f2, f3, f4, f5, f6⟩ := rdIt_l k hk hrp a0 x7 c b N hN n (j + 1) g2 s4 _ _ sp sn ps (is ++ [(q, t)]) (by omega) (by omega) e3.wf R5 e4 (by rw [List.length_append, List.length_singleton]; omega)
      have un : itsP (N - j) (is.map (·.1)) x lk = itsP (N - (j + 1)) ((is ++ [(q, t)]).map (·.1)) (takeP (takeP (takeP x 1).2 6).2 128).2 (lackP (lackP (lackP lk x 1) (takeP x 1).2 6) (takeP (takeP x 1).2 6).2 128) := by
        rw [show N - j = (N - (j + 1)) + 1 by omega, List.map_append]; rfl
      rw [un]
      refine ⟨h', s', sx, px, f1, ?_, f3, f4, f5, f6⟩
      exact ((((b1.mono fun z _ f => by omega).trans b2 fun z _ f => by omega).trans d2 fun z _ f => by omega).trans e3 fun z _ f => by omega).trans f2 fun z _ f => f
    · rw [decide_eq_false (show ¬ Int.ofNat j < Int.ofNat N by simp; omega), cond_false]
      rw [show N - j = 0 by omega]
      exact ⟨h, s, si, is, rfl, Ch.refl w, R, B, rfl, by omega⟩
end Go.Proofs.Ythpkhegoamhgeaa.Fw
