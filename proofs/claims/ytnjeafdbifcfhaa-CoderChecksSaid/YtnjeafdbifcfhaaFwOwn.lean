/- Rows in a slice of their own: copied, one put for another. No condition. -/
import Derived.Test.YtnjeafdbifcfhaaFwLaw4
namespace Go.Proofs.Ytnjeafdbifcfhaa.Fw
open Go Den Fwd GF
set_option linter.unusedVariables false
set_option linter.unusedSimpArgs false
theorem slvs_one (ps : Parts) : (ps.map fun p => slv p.1).all Den.one = true := by
  rw [List.all_map, List.all_eq_true]; intro x _; rfl
theorem own_m {h : H} (w : WF h) {sa : Sl} {ps : Parts} (A : MxR h sa ps) (hl : ps.length ≤ 1000) :
    ∃ t h', asS2 (apv 40 1 24 (Value.slice (some ⟨h.next, 0, none⟩) 0 0) (Value.slice sa.a sa.n sa.c) (newR h 40 1 [])) = some (t, h') ∧ MxO h h' t ps := by
  obtain ⟨n1, n2, n3⟩ := newR_ok w 40 1 []
  have ow : Ow 40 1 (newR h 40 1 []) ⟨some ⟨h.next, 0, none⟩, 0, 0⟩ [] := Ow.of_is n3 rfl (by unfold unk; omega)
  obtain ⟨t, h', e1, e2, e3, e4, e5⟩ := apv_ok (by_ := 24) n1.wf ow (by decide) (A.sl.stay w n1) (by rw [A.n]; show (0 + ps.length) * 24 ≤ _; omega) (slvs_one ps)
  have hb : ∀ b, SlB ⟨some ⟨h.next, 0, none⟩, 0, 0⟩ b → h.next ≤ b := fun b hb => by obtain ⟨o, q⟩ := hb; have : h.next = b := congrArg Addr.block (Option.some.inj q); omega
  have c : Ch0 h h' := Ch0.own n1 e2 hb
  have fr : ∀ b, SlB t b → h.next ≤ b := fun b hb' => (e5 b hb').elim (hb b) fun f => by omega
  refine ⟨t, h', e1, c, e3, A.rs.stay w c, fr, fun p hp b hb' f => ?_⟩
  have := (A.rs p hp).blk w hb'
  have := fr b f
  omega
theorem MxO.put {g0 h : H} {s : Sl} {ps : Parts} (o : MxO g0 h s ps) {j : Nat} (hj : j < ps.length) (d : Sl) (x : List UInt8) (r : SlR 1 h d (byt x)) (hd' : ∀ b, SlB d b → ¬ SlB s b) :
    ∃ p h', ixs 1 s.a s.n (Int.ofNat j) = some (.pointer p) ∧ stv 1 h p [.slice d.a d.n d.c] = some (undef, h') ∧ MxO g0 h' s (ps.set j (d, x)) ∧ Ch (SlB s) h h' := by
  obtain ⟨c0, ow, rs, fr, ds⟩ := o
  rcases ow with ⟨f, _⟩ | ⟨b, m, cc, rfl, hl, I, hc⟩
  · have := congrArg List.length f
    rw [List.length_map] at this
    have this : ps.length = 0 := this
    omega
  · rw [List.length_map, Nat.mul_one] at hl
    obtain ⟨h', i1, i2, i3, i4⟩ := I.set c0.wf j (slv d) (by rw [List.length_map]; exact hj) rfl
    have hF : ∀ z, z = b → SlB ⟨some ⟨b, 0, none⟩, m, cc⟩ z := fun z hz => by subst hz; exact ⟨0, rfl⟩
    have i2' : Ch (SlB ⟨some ⟨b, 0, none⟩, m, cc⟩) h h' := i2.mono fun z _ hz => hF z hz
    have kp : ∀ (q : Sl) (y : List UInt8), SlR 1 h q (byt y) → (∀ z, SlB q z → ¬ SlB ⟨some ⟨b, 0, none⟩, m, cc⟩ z) → SlR 1 h' q (byt y) := fun q y rq hq => rq.keep fun z hz => i2'.keep z (rq.blk c0.wf hz) (hq z hz)
    have mem : ∀ p ∈ ps.set j (d, x), p ∈ ps ∨ p = (d, x) := fun p hp => List.mem_or_eq_of_mem_set hp
    refine ⟨_, h', show ixs 1 (some ⟨b, 0, none⟩) m (Int.ofNat j) = _ from ixs_ptr (by omega), by rw [Nat.zero_add]; exact i1, ⟨Ch0.own c0 i2' fr, ?_, ?_, fr, ?_⟩, i2'⟩
    · refine .inr ⟨b, m, cc, rfl, by rw [List.length_map, List.length_set, Nat.mul_one]; exact hl, ?_, hc⟩
      rw [List.map_set]; exact i4
    · intro p hp
      rcases mem p hp with e | e
      · exact kp _ _ (rs p e) (ds p e)
      · rw [e]; exact kp _ _ r hd'
    · intro p hp z hz
      rcases mem p hp with e | e
      · exact ds p e z hz
      · rw [e] at hz; exact hd' z hz
theorem mxv_set (ps : Parts) (j : Nat) (p : Sl × List UInt8) : mxv (ps.set j p) = (mxv ps).set j p.2 := by unfold mxv; rw [List.map_set]
theorem MxR.cell {h : H} {s : Sl} {ps : Parts} (A : MxR h s ps) {r c : Nat} {m : Nat} (d : Dim m c (mxv ps)) (hr : r < m) {i : Nat} (hi : i < c) : ∃ (p : Option Addr) (q : Option Addr) (t : Sl), ixs 1 s.a s.n (Int.ofNat r) = some (.pointer p) ∧ asS (ldc h p) = some t ∧ t.n = c ∧ ixs 1 t.a t.n (Int.ofNat i) = some (.pointer q) ∧ ldc h q = some (.int .u8 (Int.ofNat (ent (mxv ps) r i).toNat)) := by
  have hl : r < ps.length := by have := d.n; rw [mxv_len] at this; omega
  obtain ⟨p, e1, e2⟩ := A.at hl
  have e3 : ps[r].2.length = c := d.w _ (List.mem_map.2 ⟨_, List.getElem_mem hl, rfl⟩)
  obtain ⟨q, f1, f2⟩ := (A.row hl).byte (List.getElem?_eq_getElem (show i < ps[r].2.length by omega))
  refine ⟨p, q, ps[r].1, e1, e2, by rw [(A.row hl).n_byt]; exact e3, f1, ?_⟩
  rw [f2]
  unfold ent
  rw [mxv_getD hl, bytD (show i < ps[r].2.length by omega)]
end Go.Proofs.Ytnjeafdbifcfhaa.Fw
