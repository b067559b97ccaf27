/- AskRuns: its loops. No condition. -/
import Derived.Test.YthpkhegoamhgeaaFwRq
namespace Go.Proofs.Ythpkhegoamhgeaa.Fw
open Go Den Fwd
set_option linter.unusedVariables false
set_option linter.unusedSimpArgs false
def bytesOf (qs : List Rq) : List UInt8 := (qs.map layP).flatten
def offs (qs : List Rq) (k : Nat) : Nat := (bytesOf (qs.take k)).length
def endsOf (qs : List Rq) : List Int := (List.range qs.length).map fun i => Int.ofNat (offs qs (i + 1))
theorem bytesOf_app (a b : List Rq) : bytesOf (a ++ b) = bytesOf a ++ bytesOf b := by unfold bytesOf; simp
theorem bytesOf_one (a : Rq) : bytesOf [a] = layP a := by unfold bytesOf; simp
theorem offs_all (qs : List Rq) : offs qs qs.length = (bytesOf qs).length := by unfold offs; rw [List.take_length]
theorem offs_succ (qs : List Rq) {k : Nat} (hk : k < qs.length) : offs qs (k + 1) = offs qs k + (layP qs[k]).length := by
  unfold offs
  rw [show qs.take (k + 1) = qs.take k ++ [qs[k]] by simp, bytesOf_app, bytesOf_one, List.length_append]
theorem offs_mono (qs : List Rq) : ∀ (d k : Nat), offs qs k ≤ offs qs (k + d)
  | 0, k => Nat.le_refl _
  | d + 1, k => by
    refine Nat.le_trans (offs_mono qs d k) ?_
    by_cases c : k + d < qs.length
    · rw [← Nat.add_assoc, offs_succ qs c]; omega
    · unfold offs
      rw [List.take_of_length_le (by omega), List.take_of_length_le (by omega)]; exact Nat.le_refl _
theorem offs_le (qs : List Rq) {k j : Nat} (h : k ≤ j) : offs qs k ≤ offs qs j := by
  have := offs_mono qs (j - k) k
  rwa [Nat.add_sub_cancel' h] at this
theorem bytesOf_drop (qs : List Rq) (k : Nat) : (bytesOf qs).drop (offs qs k) = bytesOf (qs.drop k) := by
  unfold offs
  have : bytesOf qs = bytesOf (qs.take k) ++ bytesOf (qs.drop k) := by rw [← bytesOf_app, List.take_append_drop]
  rw [this, List.drop_left]
theorem bytesOf_at (qs : List Rq) {k : Nat} (hk : k < qs.length) : (bytesOf qs).drop (offs qs k) = layP qs[k] ++ bytesOf (qs.drop (k + 1)) := by
  rw [bytesOf_drop, List.drop_eq_getElem_cons hk, show qs[k] :: qs.drop (k + 1) = [qs[k]] ++ qs.drop (k + 1) from rfl, bytesOf_app, bytesOf_one]
theorem endsOf_snoc (qs : List Rq) (q : Rq) : endsOf (qs ++ [q]) = endsOf qs ++ [Int.ofNat (bytesOf (qs ++ [q])).length] := by
  unfold endsOf
  rw [List.length_append, List.length_singleton, List.range_succ, List.map_append, List.map_singleton, ← offs_all, List.length_append, List.length_singleton]
  congr 1
  apply List.map_congr_left
  intro i hi
  have hi := List.mem_range.1 hi
  unfold offs
  rw [List.take_append_of_le_length (by omega)]
abbrev RqS := List (Rq × Sl)
def rcells (ps : RqS) : List Value := (ps.map fun p => p.1.vs p.2).flatten
theorem rcells_len (ps : RqS) : (rcells ps).length = ps.length * 6 := by
  unfold rcells
  rw [flatten_len (es := 6) _ (fun l hl => by obtain ⟨p, _, rfl⟩ := List.mem_map.1 hl; rfl), List.length_map]
theorem rcells_snoc (ps : RqS) (p : Rq × Sl) : rcells (ps ++ [p]) = rcells ps ++ p.1.vs p.2 := by unfold rcells; simp
theorem rcells_at (ps : RqS) {k : Nat} (hk : k < ps.length) : ((rcells ps).drop (k * 6)).take 6 = ps[k].1.vs ps[k].2 := by
  induction ps generalizing k with
  | nil => simp at hk
  | cons p ps ih =>
    have e : rcells (p :: ps) = p.1.vs p.2 ++ rcells ps := by unfold rcells; simp
    have hl : (p.1.vs p.2).length = 6 := rfl
    cases k with
    | zero => rw [e, Nat.zero_mul, List.drop_zero, List.take_append_of_le_length (by omega), List.take_of_length_le (by omega)]; rfl
    | succ k =>
      rw [e, show (k + 1) * 6 = (p.1.vs p.2).length + k * 6 by rw [hl]; omega, ← List.drop_drop, List.drop_left]
      exact ih (by simpa using hk)
structure RI (h0 h : H) (sa sb se : Sl) (ps : RqS) : Prop where
  ch : Ch0 h0 h
  al : Ow 29 6 h sa (rcells ps)
  bt : Ow 5 1 h sb (byt (bytesOf (ps.map (·.1))))
  en : Ow 3 1 h se (ivs (endsOf (ps.map (·.1))))
  ok : ∀ p ∈ ps, p.1.Ok ∧ p.1.data.length ≤ 300 ∧ SlR 1 h p.2 (byt p.1.data) ∧ ∀ x, SlB p.2 x → h0.next ≤ x ∧ ¬ SlB sa x ∧ ¬ SlB sb x ∧ ¬ SlB se x
  ab : ∀ x, SlB sa x → h0.next ≤ x ∧ ¬ SlB sb x ∧ ¬ SlB se x
  bb : ∀ x, SlB sb x → h0.next ≤ x ∧ ¬ SlB se x
  eb : ∀ x, SlB se x → h0.next ≤ x
theorem bytesOf_len (qs : List Rq) (ho : ∀ q ∈ qs, q.data.length ≤ 300) : (bytesOf qs).length ≤ 328 * qs.length := by
  induction qs with
  | nil => simp [bytesOf]
  | cons q qs ih =>
    have : bytesOf (q :: qs) = layP q ++ bytesOf qs := by unfold bytesOf; simp
    rw [this, List.length_append, layP_len, List.length_cons]
    have h1 := ho q List.mem_cons_self
    have h2 := ih fun p hp => ho p (List.mem_cons_of_mem _ hp)
    omega
/-- an argument's element: what may be known of it -/
def RawAt (h : H) (s : Sl) : Prop := ∀ i, i < s.n → ∃ (p : Option Addr) (a b c d : Int) (ck off : Nat) (sl : Sl), ixs 7 s.a s.n (Int.ofNat i) = some (.pointer p) ∧ lda 7 h p = some (.agg #[.int .i64 a, .int .i64 b, .int .i64 c, .int .i64 d, .int .u64 (Int.ofNat ck), .int .u64 (Int.ofNat off), slv sl]) ∧ ck < 18446744073709551616 ∧ off < 18446744073709551616
theorem bindRaw {β : Type} (a b c d e f : Int) (s : Sl) (g : FT [.int .i64, .int .i64, .int .i64, .int .i64, .int .u64, .int .u64, .sl] → Option β) : (asSt [(.int .i64), (.int .i64), (.int .i64), (.int .i64), (.int .u64), (.int .u64), .sl] (some (Value.agg #[.int .i64 a, .int .i64 b, .int .i64 c, .int .i64 d, .int .u64 e, .int .u64 f, slv s]))).bind g = g (show FT [.int .i64, .int .i64, .int .i64, .int .i64, .int .u64, .int .u64, .sl] from ((a, b, c, d, e, f, s) : Int × Int × Int × Int × Int × Int × Sl)) := rfl
theorem push_int {h : H} (w : WF h) {s : Sl} {l : List Int} (r : Ow 3 1 h s (ivs l)) (n : Int) (hb : l.length ≤ 1000000) :
    ∃ s' h', asS2 (apv 3 1 8 (.slice s.a s.n s.c) (.slice (some ⟨h.next, 0, none⟩) 1 1) (newR h 3 1 [.int .i64 n])) = some (s', h') ∧ Ch (SlB s) h h' ∧ Ow 3 1 h' s' (ivs (l ++ [n])) ∧ ∀ b, SlB s' b → SlB s b ∨ h.next ≤ b := by
  obtain ⟨n1, n2, n3⟩ := newR_ok w 3 1 [.int .i64 n]
  have hs := r.slr.len
  rw [ivs_len, Nat.mul_one] at hs
  obtain ⟨s', h', e1, e2, e3, e4, e5⟩ := apv_ok (by_ := 8) n1.wf (r.keep fun b hb => n1.keep b (r.lt w hb) fun f => f) (by decide) (SlR.of_is n3 (n := 1) rfl (by unfold unk; omega)) (by rw [← hs]; show (l.length + 1) * 8 ≤ _; omega) rfl
  refine ⟨s', h', e1, (n1.mono fun _ _ f => f.elim).trans e2 fun _ _ f => f, ?_, fun b hb => (e5 b hb).imp id fun f => by omega⟩
  have : ivs l ++ [.int .i64 n] = ivs (l ++ [n]) := by unfold ivs; simp
  rw [← this]; exact e3
theorem runs_l0 (k : Nat) (hk : 1000 < k) {h0 : H} (w0 : WF h0) {s : Sl} (a1 : Int) (hraw : ∀ h, Ch0 h0 h → RawAt h s) : ∀ n i h sa sb se ps, 8 - i < n → i ≤ 8 → RI h0 h sa sb se ps → ps.length = i →
    ∃ h' sa' sb' se' ps', corbellaw24_AskRuns.l0 k n s a1 sa sb se (Int.ofNat i) h = some ((sa', sb', se'), h') ∧ RI h0 h' sa' sb' se' ps' ∧ ps'.length ≤ 8
  | 0, i, h, sa, sb, se, ps, hn, _, _, _ => by omega
  | n + 1, i, h, sa, sb, se, ps, hn, hi, I, hl => by
    rw [corbellaw24_AskRuns.l0_succ]
    by_cases c : i < s.n ∧ i < 8
    · rw [decide_eq_true (show Int.ofNat i < Int.ofNat s.n by simp; omega), cond_true, decide_eq_true (show Int.ofNat i < (8 : Int) by simp; omega)]
      simp only [Option.bind_some, cond_true]
      obtain ⟨p, a, b, c1, d, ck0, off0, sl, x1, x2, x3, x4⟩ := hraw h I.ch i c.1
      rw [x1]
      simp only [asP_ptr, Option.bind_some]
      rw [x2, bindRaw]
      dsimp only
      obtain ⟨fl, ty, ck, off, le, d0, h1, a1, a2, a3, a4⟩ := of_f k hk I.ch.wf a b c1 d ck0 off0 x3 x4 sl
      rw [a1]
      simp only [Option.bind_some]
      rw [show [Value.int .i64 (0 : Int), Value.int .i64 0, Value.int .u64 0, Value.int .u64 0, Value.int .i64 0, Value.slice none 0 0] = rqV 0 0 0 0 0 ⟨none, 0, 0⟩ from rfl]
      rw [show [Value.int .i64 fl, Value.int .i64 ty, Value.int .u64 (Int.ofNat ck), Value.int .u64 (Int.ofNat off), Value.int .i64 le, Value.slice d0.a d0.n d0.c] = rqV fl ty (Int.ofNat ck) (Int.ofNat off) le d0 from rfl]
      obtain ⟨h2, b1, b2, b3, b4⟩ := box_ok a2.wf 29 6 (rqV 0 0 0 0 0 ⟨none, 0, 0⟩) (rqV fl ty (Int.ofNat ck) (Int.ofNat off) le d0) rfl rfl rfl
      rw [b1]
      have P : ∀ (n m : Int) (h0 : 0 < m) (h1 : m ≤ 4611686018427387904) (g : H), corbelhand_Pick.f k n m g = some (n % m, g) := fun n m h0 h1 g => pick_f k n m g h0 h1
      obtain ⟨T, hT⟩ : ∃ T : Nat, ty % 65536 = Int.ofNat T := ⟨(ty % 65536).toNat, (Int.toNat_of_nonneg (Int.emod_nonneg _ (by decide))).symm⟩
      obtain ⟨F, hF⟩ : ∃ T : Nat, fl % 65536 = Int.ofNat T := ⟨(fl % 65536).toNat, (Int.toNat_of_nonneg (Int.emod_nonneg _ (by decide))).symm⟩
      obtain ⟨L, hL⟩ : ∃ T : Nat, le % 4294967296 = Int.ofNat T := ⟨(le % 4294967296).toNat, (Int.toNat_of_nonneg (Int.emod_nonneg _ (by decide))).symm⟩
      have T8 : T < 65536 := by have := Int.emod_lt_of_pos ty (show (0 : Int) < 65536 by decide); rw [hT] at this; simp only [Int.ofNat_eq_natCast] at this; omega
      have F4 : F < 65536 := by have := Int.emod_lt_of_pos fl (show (0 : Int) < 65536 by decide); rw [hF] at this; simp only [Int.ofNat_eq_natCast] at this; omega
      have L200 : L < 4294967296 := by have := Int.emod_lt_of_pos le (show (0 : Int) < 4294967296 by decide); rw [hL] at this; simp only [Int.ofNat_eq_natCast] at this; omega
      simp only [Option.bind_some, b4.ldc]
      rw [show (rqV fl ty (Int.ofNat ck) (Int.ofNat off) le d0)[1]? = some (.int .i64 ty) from rfl]
      simp only [asI_int, Option.bind_some, P ty 65536 (by decide) (by decide), hT]
      obtain ⟨h3, c1, c2, c3, c4⟩ := b4.set b2.wf 1 (.int .i64 (Int.ofNat T)) (by show 1 < 6; decide) rfl
      rw [c1]
      simp only [Option.bind_some, c4.ldc]
      rw [show ((rqV fl ty (Int.ofNat ck) (Int.ofNat off) le d0).set 1 (.int .i64 (Int.ofNat T)))[0]? = some (.int .i64 fl) from rfl]
      simp only [asI_int, Option.bind_some, P fl 65536 (by decide) (by decide), hF]
      obtain ⟨h4, e1, e2, e3, e4⟩ := c4.set c2.wf 0 (.int .i64 (Int.ofNat F)) (by show 0 < 6; decide) rfl
      rw [e1]
      simp only [Option.bind_some, e4.ldc]
      rw [show (((rqV fl ty (Int.ofNat ck) (Int.ofNat off) le d0).set 1 (.int .i64 (Int.ofNat T))).set 0 (.int .i64 (Int.ofNat F)))[4]? = some (.int .i64 le) from rfl]
      simp only [asI_int, Option.bind_some, P le 4294967296 (by decide) (by decide), hL]
      obtain ⟨h5, f1, f2, f3, f4⟩ := e4.set e2.wf 4 (.int .i64 (Int.ofNat L)) (by show 4 < 6; decide) rfl
      rw [f1]
      simp only [Option.bind_some]
      obtain ⟨h6, g1, g2, g3, g4⟩ := f4.set f2.wf 5 (slv ⟨none, 0, 0⟩) (by show 5 < 6; decide) rfl
      rw [show [Value.slice none 0 0] = [slv ⟨none, 0, 0⟩] from rfl, g1]
      rw [show ((((rqV fl ty (Int.ofNat ck) (Int.ofNat off) le d0).set 1 (.int .i64 (Int.ofNat T))).set 0 (.int .i64 (Int.ofNat F))).set 4 (.int .i64 (Int.ofNat L))).set 5 (slv ⟨none, 0, 0⟩) = rqV (Int.ofNat F) (Int.ofNat T) (Int.ofNat ck) (Int.ofNat off) (Int.ofNat L) ⟨none, 0, 0⟩ from rfl] at g4
      simp only [Option.bind_some, g4.ldc]
      rw [show (rqV (Int.ofNat F) (Int.ofNat T) (Int.ofNat ck) (Int.ofNat off) (Int.ofNat L) ⟨none, 0, 0⟩)[1]? = some (.int .i64 (Int.ofNat T)) from rfl, show (rqV (Int.ofNat F) (Int.ofNat T) (Int.ofNat ck) (Int.ofNat off) (Int.ofNat L) ⟨none, 0, 0⟩)[4]? = some (.int .i64 (Int.ofNat L)) from rfl]
      simp only [asI_int, Option.bind_some, P (Int.ofNat L) 300 (by decide) (by decide)]
      have c16 : Ch0 h1 h6 := ⟨g2.wf, by omega, fun x hx _ => (g2.keep x (by omega) (by omega)).trans ((f2.keep x (by omega) (by omega)).trans ((e2.keep x (by omega) (by omega)).trans ((c2.keep x (by omega) (by omega)).trans (b2.keep x hx fun f => f))))⟩
      have J : ∃ hj dq data LL, (cond (Int.ofNat T == (1 : Int))
      ((stv 1 h6 (some ⟨h1.next, 4, none⟩) [(Value.int .i64 (Int.ofNat L % 300))]).bind fun q26 =>
    (asI .i64 (ldc q26.2 (some ⟨h1.next, 4, none⟩))).bind fun n27 =>
    (corbelhand_Bytes.f k (Int.ofNat i) n27 q26.2).bind fun q28 =>
    (stv 1 q28.2 (some ⟨h1.next, 5, none⟩) [(Value.slice q28.1.a q28.1.n q28.1.c)]).bind fun q29 =>
    some ((), q29.2))
      (some ((), h6)) : Option ((Unit) × H)) = some ((), hj) ∧ Ch0 h1 hj ∧ Is hj h1.next 29 6 (rqV (Int.ofNat F) (Int.ofNat T) (Int.ofNat ck) (Int.ofNat off) (Int.ofNat LL) dq) ∧ SlR 1 hj dq (byt data) ∧ (T = 1 → data.length = LL ∧ LL ≤ 300) ∧ (T ≠ 1 → data = []) ∧ LL < 4294967296 ∧ ∀ x, SlB dq x → h1.next ≤ x := by
        by_cases t1 : T = 1
        · rw [show (Int.ofNat T == (1 : Int)) = true by rw [t1]; rfl, cond_true]
          rw [show Int.ofNat L % 300 = Int.ofNat (L % 300) from rfl]
          obtain ⟨h6', g1', g2', g3', g4'⟩ := g4.set c16.wf 4 (.int .i64 (Int.ofNat (L % 300))) (by show 4 < 6; decide) rfl
          rw [show ((rqV (Int.ofNat F) (Int.ofNat T) (Int.ofNat ck) (Int.ofNat off) (Int.ofNat L) ⟨none, 0, 0⟩).set 4 (.int .i64 (Int.ofNat (L % 300)))) = rqV (Int.ofNat F) (Int.ofNat T) (Int.ofNat ck) (Int.ofNat off) (Int.ofNat (L % 300)) ⟨none, 0, 0⟩ from rfl] at g4'
          rw [g1']
          simp only [Option.bind_some, g4'.ldc]
          rw [show (rqV (Int.ofNat F) (Int.ofNat T) (Int.ofNat ck) (Int.ofNat off) (Int.ofNat (L % 300)) ⟨none, 0, 0⟩)[4]? = some (.int .i64 (Int.ofNat (L % 300))) from rfl]
          simp only [asI_int, Option.bind_some]
          obtain ⟨dq, x, h7, u1, u2, u3, u4, u5⟩ := hbytes_f k (Int.ofNat i) (L % 300) (by omega) (by omega) g2'.wf
          rw [u1]
          simp only [Option.bind_some]
          obtain ⟨h8, v1, v2, v3, v4⟩ := (g4'.stay g2'.wf u2).set u2.wf 5 (slv dq) (by show 5 < 6; decide) rfl
          rw [show [Value.slice dq.a dq.n dq.c] = [slv dq] from rfl, v1]
          have l7 := u2.le
          have l6 := c16.le
          refine ⟨h8, dq, x, L % 300, rfl, ⟨v2.wf, by omega, fun y hy f => (v2.keep y (by omega) (by omega)).trans ((u2.keep y (by omega) f).trans ((g2'.keep y (by omega) (by omega)).trans (c16.keep y hy f)))⟩, v4, (u4.keep fun y hy => v2.keep y (u4.lt u2.wf hy) ?_).slr, fun _ => ⟨u3, by omega⟩, fun f => absurd t1 f, by omega, fun y hy => by have := u5 y hy; omega⟩
          have := u5 y hy
          omega
        · rw [show (Int.ofNat T == (1 : Int)) = false by
            rw [beq_eq_false_iff_ne]; intro f; exact t1 (Int.ofNat.inj f), cond_false]
          exact ⟨h6, ⟨none, 0, 0⟩, [], L, rfl, c16, g4, .inl ⟨rfl, .inl rfl⟩, fun f => absurd f t1, fun _ => rfl, L200, fun x hx => by obtain ⟨o, e⟩ := hx; cases e⟩
      obtain ⟨hj, dq, data, LL, j1, j2, j3, j4, j5, j6, j7, j8⟩ := J
      rw [j1]
      simp only [Option.bind_some]
      let q : Rq := ⟨F, T, ck, off, LL, data⟩
      have ok : q.Ok := ⟨F4, T8, a3, a4, j7, fun f => ⟨(j5 f).1, by have := (j5 f).2; show LL ≤ _; omega⟩, j6⟩
      have dl : q.data.length ≤ 300 := by
        show data.length ≤ 300
        by_cases t1 : T = 1
        · have := j5 t1; omega
        · rw [j6 t1]; exact Nat.zero_le _
      rw [Is.rq j3, bindRq]
      dsimp only
      rw [show [Value.int .i64 (Int.ofNat F), Value.int .i64 (Int.ofNat T), Value.int .u64 (Int.ofNat ck), Value.int .u64 (Int.ofNat off), Value.int .i64 (Int.ofNat LL), Value.slice dq.a dq.n dq.c] = q.vs dq from rfl]
      have c0j : Ch0 h hj := a2.then j2
      have h0j : Ch0 h0 hj := I.ch.then c0j
      obtain ⟨y1, y2, y3⟩ := newR_ok h0j.wf 29 6 (q.vs dq)
      have al1 := (I.al.stay I.ch.wf c0j).stay h0j.wf y1
      have san : sa.n = ps.length := by have := I.al.slr.len; rw [rcells_len] at this; omega
      obtain ⟨sa', h9, k1, k2, k3, k4, k5⟩ := apv_ok (by_ := 64) y1.wf al1 (by decide) (SlR.of_is y3 (n := 1) rfl (by unfold unk; omega)) (by rw [san]; show (ps.length + 1) * 64 ≤ _; omega) rfl
      rw [k1]
      simp only [Option.bind_some]
      have lj := c0j.le
      have l0 := I.ch.le
      have l1 := a2.le
      have h0k : Ch0 h0 h9 := Ch0.own (h0j.then y1) k2 fun x hx => (I.ab x hx).1
      have sal : ∀ x, SlB sa x → x < h.next := fun x hx => I.al.lt I.ch.wf hx
      have sbl : ∀ x, SlB sb x → x < h.next := fun x hx => I.bt.lt I.ch.wf hx
      have sel : ∀ x, SlB se x → x < h.next := fun x hx => I.en.lt I.ch.wf hx
      have j3lt := j3.lt h0j.wf
      have B9 := (j3.stay h0j.wf y1).keep (k2.keep h1.next (by omega) fun f => by have := sal _ f; omega)
      rw [Is.rq B9, bindRq]
      dsimp only
      have D9 := (j4.stay h0j.wf y1).keep (h' := h9) fun x hx => k2.keep x (Nat.lt_of_lt_of_le (j4.blk h0j.wf hx) y1.le) fun f => by have := sal _ f; have := j8 x hx; omega
      obtain ⟨so, h10, m1, m2, m3, m4⟩ := lay_f k hk h0k.wf q dq D9 (by show F < _; omega) (by show T < _; omega) (by show LL < _; omega) (by omega)
      rw [show ((Int.ofNat F, Int.ofNat T, Int.ofNat ck, Int.ofNat off, Int.ofNat LL, dq) : RqT) = q.tup dq from rfl, m1]
      simp only [Option.bind_some]
      have h0l : Ch0 h0 h10 := h0k.then m2
      have lk := k2.le
      have ly := y1.le
      have lm := m2.le
      have bt1 := (((I.bt.stay I.ch.wf c0j).stay h0j.wf y1).keep fun x hx => k2.keep x (by have := sbl x hx; omega) fun f => (I.ab x f).2.1 hx).stay h0k.wf m2
      have hlen := bytesOf_len (ps.map (·.1)) fun q hq => by obtain ⟨p, hp, rfl⟩ := List.mem_map.1 hq; exact (I.ok p hp).2.1
      rw [List.length_map, hl] at hlen
      obtain ⟨sb', h11, n1, n2, n3, n4⟩ := app_b m2.wf bt1 m3.slr (by rw [layP_len]; omega)
      rw [n1]
      simp only [Option.bind_some]
      have h0n : Ch0 h0 h11 := Ch0.own h0l n2 fun x hx => (I.bb x hx).1
      have ln := n2.le
      have en1 := (((((I.en.stay I.ch.wf c0j).stay h0j.wf y1).keep fun x hx => k2.keep x (by have := sel x hx; omega) fun f => (I.ab x f).2.2 hx).stay h0k.wf m2).keep fun x hx => n2.keep x (by have := sel x hx; omega) fun f => (I.bb x f).2 hx)
      have hbn : sb'.n = (bytesOf (ps.map (·.1) ++ [q])).length := by rw [n3.slr.n_byt, bytesOf_app, bytesOf_one]
      have hel : (endsOf (ps.map (·.1))).length ≤ 1000000 := by unfold endsOf; simp; omega
      obtain ⟨se', h12, o1, o2, o3, o4⟩ := push_int h0n.wf en1 (Int.ofNat sb'.n) hel
      rw [o1]
      simp only [Option.bind_some]
      have lo := o2.le
      rw [wrap_succ (by omega)]
      have h0o : Ch0 h0 h12 := Ch0.own h0n o2 fun x hx => I.eb x hx
      have a9l : ∀ x, SlB sa' x → (SlB sa x ∨ hj.next ≤ x) ∧ x < h9.next := fun x hx => ⟨(k5 x hx).imp id fun f => by omega, k3.lt k2.wf hx⟩
      have b11l : ∀ x, SlB sb' x → (SlB sb x ∨ h10.next ≤ x) ∧ x < h11.next := fun x hx => ⟨n4 x hx, n3.lt n2.wf hx⟩
      have I' : RI h0 h12 sa' sb' se' (ps ++ [(q, dq)]) := by
        refine ⟨h0o, ?_, ?_, ?_, ?_, ?_, ?_, ?_⟩
        · rw [rcells_snoc]
          refine ((k3.stay k2.wf m2).keep fun x hx => n2.keep x (by have := (a9l x hx).2; omega) fun f => ?_).keep fun x hx => o2.keep x (by have := (a9l x hx).2; omega) fun f => ?_
          · rcases (a9l x hx).1 with g | g
            · exact (I.ab x g).2.1 f
            · have := sbl x f; omega
          · rcases (a9l x hx).1 with g | g
            · exact (I.ab x g).2.2 f
            · have := sel x f; omega
        · rw [List.map_append, bytesOf_app, List.map_singleton, bytesOf_one]
          refine n3.keep fun x hx => o2.keep x (b11l x hx).2 fun f => ?_
          rcases (b11l x hx).1 with g | g
          · exact (I.bb x g).2 f
          · have := sel x f; omega
        · rw [List.map_append, List.map_singleton, endsOf_snoc]
          rw [hbn] at o3; exact o3
        · intro p hp
          rcases List.mem_append.1 hp with f | f
          · obtain ⟨r1, r2, r3, r4⟩ := I.ok p f
            have pl : ∀ x, SlB p.2 x → x < h.next := fun x hx => r3.blk I.ch.wf hx
            refine ⟨r1, r2, r3.keep fun x hx => ?_, fun x hx => ⟨(r4 x hx).1, fun f => ?_, fun f => ?_, fun f => ?_⟩⟩
            · obtain ⟨t1, t2, t3, t4⟩ := r4 x hx
              have := pl x hx
              exact (o2.keep x (by omega) t4).trans ((n2.keep x (by omega) t3).trans ((m2.keep x (by omega) fun f => f).trans ((k2.keep x (by omega) t2).trans ((y1.keep x (by omega) fun f => f).trans (c0j.keep x (by omega) fun f => f)))))
            · have := pl x hx
              rcases (a9l x f).1 with g | g
              · exact (r4 x hx).2.1 g
              · omega
            · have := pl x hx
              rcases (b11l x f).1 with g | g
              · exact (r4 x hx).2.2.1 g
              · omega
            · have := pl x hx
              rcases o4 x f with g | g
              · exact (r4 x hx).2.2.2 g
              · omega
          · rw [List.mem_singleton.1 f]
            have dql : ∀ x, SlB dq x → x < hj.next := fun x hx => j4.blk h0j.wf hx
            refine ⟨ok, dl, (D9.stay h0k.wf m2).keep fun x hx => (o2.keep x (by have := dql x hx; omega) fun f => ?_).trans (n2.keep x (by have := dql x hx; omega) fun f => ?_), fun x hx => ⟨by have := j8 x hx; omega, fun f => ?_, fun f => ?_, fun f => ?_⟩⟩
            · have := sel x f; have := j8 x hx; omega
            · have := sbl x f; have := j8 x hx; omega
            · have := j8 x hx
              have := dql x hx
              rcases (a9l x f).1 with g | g
              · have := sal x g; omega
              · omega
            · have := j8 x hx
              have := dql x hx
              rcases (b11l x f).1 with g | g
              · have := sbl x g; omega
              · omega
            · have := j8 x hx
              have := dql x hx
              rcases o4 x f with g | g
              · have := sel x g; omega
              · omega
        · intro x hx
          obtain ⟨g, g2⟩ := a9l x hx
          refine ⟨?_, fun f => ?_, fun f => ?_⟩
          · rcases g with g | g
            · exact (I.ab x g).1
            · omega
          · rcases (b11l x f).1 with f | f
            · rcases g with g | g
              · exact (I.ab x g).2.1 f
              · have := sbl x f; omega
            · omega
          · rcases o4 x f with f | f
            · rcases g with g | g
              · exact (I.ab x g).2.2 f
              · have := sel x f; omega
            · omega
        · intro x hx
          obtain ⟨g, g2⟩ := b11l x hx
          refine ⟨?_, fun f => ?_⟩
          · rcases g with g | g
            · exact (I.bb x g).1
            · omega
          · rcases o4 x f with f | f
            · rcases g with g | g
              · exact (I.bb x g).2 f
              · have := sel x f; omega
            · omega
        · intro x hx
          rcases o4 x hx with g | g
          · exact I.eb x g
          · omega
      exact runs_l0 k hk w0 _ hraw n (i + 1) h12 sa' sb' se' _ (by omega) (by omega) I' (by rw [List.length_append, List.length_singleton, hl])
    · have hg : (cond (decide (Int.ofNat i < Int.ofNat s.n)) (some (decide (Int.ofNat i < (8 : Int)), h)) (some (false, h)) : Option (Bool × H)) = some (false, h) := by
        by_cases q : i < s.n
        · rw [decide_eq_true (show Int.ofNat i < Int.ofNat s.n by simp; omega), decide_eq_false (show ¬ Int.ofNat i < (8 : Int) by simp; omega)]; rfl
        · rw [decide_eq_false (show ¬ Int.ofNat i < Int.ofNat s.n by simp; omega)]; rfl
      rw [hg]
      simp only [Option.bind_some, cond_false]
      exact ⟨h, sa, sb, se, ps, rfl, I, by omega⟩
end Go.Proofs.Ythpkhegoamhgeaa.Fw
