/- 'copy(dst, src)' where dst is a row of the call's own (or a cut of it) and src a row that is read: the row behind it, element by element. No condition. -/
import Derived.Test.YthpkhegoamhgeaaWMore
import Derived.Laws.IdiomCopy
import Derived.Laws.CopyOwn
namespace Go.Proofs.Ythpkhegoamhgeaa.Copy
open Go.RowKit Go.Proofs.YthpkhegoamhgeaaW.PrintWords Go.Proofs.YthpkhegoamhgeaaW.PrintLast Go.Proofs.YthpkhegoamhgeaaW.PrintMore
set_option linter.unusedVariables false
set_option linter.unusedSimpArgs false

/-- xs, with ys laid over it from place o on -/
def lay {α : Type} (xs : List α) : Nat → List α → List α
  | _, [] => xs
  | o, y :: ys => lay (xs.set o y) (o + 1) ys
theorem lay_len {α : Type} : ∀ (ys xs : List α) (o : Nat), (lay xs o ys).length = xs.length
  | [], _, _ => rfl
  | y :: ys, xs, o => by rw [lay, lay_len ys, List.length_set]
theorem lay_get {α : Type} : ∀ (ys xs : List α) (o i : Nat), (lay xs o ys)[i]? = if i < xs.length ∧ o ≤ i ∧ i < o + ys.length then ys[i - o]? else xs[i]?
  | [], xs, o, i => by rw [lay, if_neg (by simp)]
  | y :: ys, xs, o, i => by
    rw [lay, lay_get ys, List.length_set, List.length_cons]
    by_cases h : i = o
    · subst h
      rw [if_neg (by omega)]
      by_cases hl : i < xs.length
      · rw [if_pos (by omega), List.getElem?_set_self hl, Nat.sub_self, List.getElem?_cons_zero]
      · rw [if_neg (by omega), List.getElem?_eq_none (by rw [List.length_set]; omega), List.getElem?_eq_none (by omega)]
    · rw [List.getElem?_set_ne (by omega)]
      by_cases hc : i < xs.length ∧ o + 1 ≤ i ∧ i < o + 1 + ys.length
      · rw [if_pos hc, if_pos (by omega), show i - o = (i - (o + 1)) + 1 by omega, List.getElem?_cons_succ]
      · rw [if_neg hc, if_neg (by omega)]
theorem lay_eq {α : Type} (xs ys : List α) (o : Nat) (h : o + ys.length ≤ xs.length) : lay xs o ys = xs.take o ++ (ys ++ xs.drop (o + ys.length)) := by
  apply List.ext_getElem?
  intro i
  rw [lay_get, List.getElem?_append, List.getElem?_append, List.getElem?_take, List.getElem?_drop, List.length_take]
  by_cases h1 : i < o
  · rw [if_neg (by omega), if_pos (by omega), if_pos h1]
  · rw [if_neg (show ¬ i < min o xs.length by omega), show min o xs.length = o by omega]
    by_cases h2 : i < o + ys.length
    · rw [if_pos (by omega), if_pos (by omega)]
    · rw [if_neg (by omega), if_neg (by omega)]
      congr 1
      omega

theorem gate_convert {P : Program} {ops : Array Oper} {rest : List Oper} {o : Oper} {a : Act} {W : World} {Q : Exit → Act → World → Prop} {x : Operand} {T : TypeId} (_ho : o.op = .convert T T x) (h : wpList P ops Q (o :: rest) a W) : wpList P ops Q (o :: rest) a W := h
section
variable {k : IntKind} {e base g cap : Nat} {ok : Nat → Prop}
theorem R_lay : ∀ (ys : List Int) (o : Nat) (xs : List Int) (W : World), (Kd.int k).R e W base ok (.slice (some ⟨g, 0, none⟩) xs.length cap) xs →
    (Kd.int k).R e (W.setCells g o (ys.map (Value.int k))) base ok (.slice (some ⟨g, 0, none⟩) xs.length cap) (lay xs o ys) ∧ W.grownBy (W.setCells g o (ys.map (Value.int k))) (some g)
  | [], o, xs, W, h => ⟨h, ⟨rfl, rfl, rfl, Nat.le_refl _, fun _ _ _ => rfl⟩⟩
  | y :: ys, o, xs, W, h => by
    have h1 := Kd.R_put h ((o : Nat) : Int) y
    rw [Int.toNat_natCast] at h1
    have h2 := R_lay ys (o + 1) (xs.set o y) _ (by rw [List.length_set]; exact h1.1)
    rw [List.length_set] at h2
    exact ⟨h2.1, h1.2.trans h2.2⟩
theorem below_cells {w0 : World} (hg : base ≤ g) : ∀ (vs : List Value) (o : Nat) (W : World), Below base w0 W → Below base w0 (W.setCells g o vs)
  | [], _, _, h => h
  | v :: vs, o, W, h => below_cells hg vs (o + 1) _ (h.setCell hg v)
theorem copy_row {P : Program} {w0 W : World} {ops : Array Oper} {rest : List Oper} {o : Oper} {a : Act} {Q : Exit → Act → World → Prop} (hgd : o.guard = none) (d s : Operand) (dT sT : TypeId)
    (ho : o.op = .call { callee := .builtin .copy, args := #[d, s], argTypes := #[dT, sT] }) (elem : TypeId) (hu : P.underlying dT = some (.slice elem)) (hsz : (P.info? elem).map (·.size) = some 1)
    (off : Nat) (xs ys : List Int) (g cap dLen dCap : Nat) (A : Option Addr) (c : Nat) (hd : a.eval d = .slice (some ⟨g, off, none⟩) dLen dCap) (hs : a.eval s = .slice A ys.length c)
    (hr : (Kd.int k).R e W base ok (.slice (some ⟨g, 0, none⟩) xs.length cap) xs) (hoff : off + dLen ≤ xs.length) (hsrc : (Kd.int k).C W A ys.length ys) (HB : Below base w0 W) (hg : base ≤ g)
    (h : ∀ W', (Kd.int k).R e W' base ok (.slice (some ⟨g, 0, none⟩) xs.length cap) (lay xs off (ys.take dLen)) → Below base w0 W' → W.grownBy W' (some g) → wpList P ops Q rest (a.put o.dst (goInt (Nat.min ys.length dLen))) W') :
    wpList P ops Q (o :: rest) a W := by
  have hl : (ys.take dLen).length = Nat.min ys.length dLen := by rw [List.length_take]; exact Nat.min_comm _ _
  obtain ⟨h1, h2⟩ := R_lay (ys.take dLen) off xs W hr
  by_cases h0 : Nat.min ys.length dLen = 0
  · refine wpList_copy_nothing hgd d s dT sT ho elem hu hsz _ A dLen dCap ys.length c hd hs h0 ?_
    have e0 : ys.take dLen = [] := List.eq_nil_of_length_eq_zero (by rw [hl, h0])
    have := h W (by rw [e0]; exact hr) HB ⟨rfl, rfl, rfl, Nat.le_refl _, fun _ _ _ => rfl⟩
    rwa [h0] at this
  · have hpos : 0 < ys.length := Nat.lt_of_lt_of_le (Nat.pos_of_ne_zero h0) (Nat.min_le_left _ _)
    obtain ⟨ad, rfl, _⟩ := Kd.at_int hsrc 0 (by omega) (by omega)
    have hn : ((ys.take dLen).map (Value.int k)).length = Nat.min ys.length dLen := by rw [List.length_map, hl]
    have hrun := run_copy_cells (P := P) W dT sT o.type elem g off dLen dCap ad ys.length c ((ys.take dLen).map (Value.int k)) hu hsz hn
      (fun j v hj => by
        rw [List.getElem?_map] at hj
        obtain ⟨y, hy, rfl⟩ := Option.map_eq_some_iff.1 hj
        rw [List.getElem?_take] at hy
        split at hy
        · have hjl : j < ys.length := by
            rcases Nat.lt_or_ge j ys.length with q | q
            · exact q
            · rw [List.getElem?_eq_none q] at hy; cases hy
          obtain ⟨ad', ha, hc⟩ := Kd.at_int hsrc (j : Int) (by omega) (by omega)
          cases ha
          rw [Int.toNat_natCast] at hc
          rw [hc]
          congr 2
          unfold rd
          rw [List.getD_eq_getElem?_getD, Int.toNat_natCast, hy]
          rfl
        · cases hy)
      (fun j hj => by
        have hj2 : j < dLen := Nat.lt_of_lt_of_le (by rw [hn] at hj; exact hj) (Nat.min_le_right _ _)
        have := (Kd.R_celln (0 : Int) hr ((off + j : Nat) : Int) (by omega) (by omega)).1
        rw [Int.toNat_natCast] at this
        rw [this]; rfl)
      (fun j hj => by
        have hj2 : j < dLen := Nat.lt_of_lt_of_le (by rw [hn] at hj; exact hj) (Nat.min_le_right _ _)
        have := (Kd.R_celln (0 : Int) hr ((off + j : Nat) : Int) (by omega) (by omega)).2
        rw [Int.toNat_natCast] at this
        exact this)
      (fun v hv => by
        obtain ⟨y, _, rfl⟩ := List.mem_map.1 hv
        rfl)
    have hfin := h _ h1 (below_cells hg _ off W HB) h2
    rw [← hn] at hfin
    clear h h1 h2
    generalize (ys.take dLen).map (Value.int k) = cs at hrun hfin
    refine wpList_plain hgd fun K hK => ?_
    unfold Oper.wp
    simp [execOp, ho, resolve, invoke, builtin, hd, hs, hrun, Result.andThen]
    exact hK _ _ hfin
/-- dst a whole row of the call's own, made or nil, of whatever length -/
theorem copy_any {P : Program} {w0 W : World} {ops : Array Oper} {rest : List Oper} {o : Oper} {a : Act} {Q : Exit → Act → World → Prop} (hgd : o.guard = none) (d s : Operand) (dT sT : TypeId)
    (ho : o.op = .call { callee := .builtin .copy, args := #[d, s], argTypes := #[dT, sT] }) (elem : TypeId) (hu : P.underlying dT = some (.slice elem)) (hsz : (P.info? elem).map (·.size) = some 1)
    (xs ys : List Int) (v : Value) (A : Option Addr) (c : Nat) (hd : a.eval d = v) (hs : a.eval s = .slice A ys.length c)
    (hr : (Kd.int k).R e W base ok v xs) (hsrc : (Kd.int k).C W A ys.length ys) (HB : Below base w0 W)
    (h : ∀ W', (Kd.int k).R e W' base ok v (lay xs 0 (ys.take xs.length)) → Below base w0 W' → W.grownBy W' v.ownBlock → wpList P ops Q rest (a.put o.dst (goInt (Nat.min ys.length xs.length))) W') :
    wpList P ops Q (o :: rest) a W := by
  by_cases hp : 0 < xs.length
  · obtain ⟨g, cap, rfl, hg, _, _⟩ := Kd.R_form hr hp
    exact copy_row hgd d s dT sT ho elem hu hsz 0 xs ys g cap xs.length cap A c hd hs hr (by omega) hsrc HB hg h
  · obtain ⟨A', c', rfl⟩ := Kd.R_slice hr
    have h0 : xs.length = 0 := by omega
    have hm : Nat.min ys.length xs.length = 0 := by rw [h0]; exact Nat.min_zero _
    refine wpList_copy_nothing hgd d s dT sT ho elem hu hsz A' A xs.length c' ys.length c hd hs hm ?_
    have e0 : ys.take xs.length = [] := by rw [h0]; rfl
    have := h W (by rw [e0]; exact hr) HB ⟨rfl, rfl, rfl, Nat.le_refl _, fun _ _ _ => rfl⟩
    rwa [hm] at this
/-- dst a row of the call's own, cut from place N on -/
theorem copy_cut {P : Program} {w0 W : World} {ops : Array Oper} {rest : List Oper} {o : Oper} {a : Act} {Q : Exit → Act → World → Prop} (hgd : o.guard = none) (d s : Operand) (dT sT : TypeId)
    (ho : o.op = .call { callee := .builtin .copy, args := #[d, s], argTypes := #[dT, sT] }) (elem : TypeId) (hu : P.underlying dT = some (.slice elem)) (hsz : (P.info? elem).map (·.size) = some 1)
    (xs ys : List Int) (A0 : Option Addr) (n c0 N : Nat) (AQ : Option Addr) (dl cQ : Nat) (A : Option Addr) (c : Nat) (hd : a.eval d = .slice AQ dl cQ) (hs : a.eval s = .slice A ys.length c)
    (hA : AQ = if c0 = N then A0 else A0.map (·.add (N * 1))) (hdl : dl = xs.length - N) (hN : N ≤ xs.length)
    (hr : (Kd.int k).R e W base ok (.slice A0 n c0) xs) (hsrc : (Kd.int k).C W A ys.length ys) (HB : Below base w0 W)
    (h : ∀ W', (Kd.int k).R e W' base ok (.slice A0 n c0) (lay xs N (ys.take (xs.length - N))) → Below base w0 W' → W.grownBy W' (Value.slice A0 n c0).ownBlock → wpList P ops Q rest (a.put o.dst (goInt (Nat.min ys.length dl))) W') :
    wpList P ops Q (o :: rest) a W := by
  obtain ⟨hn, hc, _⟩ := Kd.R_reads' hr
  subst hn
  by_cases h0 : Nat.min ys.length dl = 0
  · refine wpList_copy_nothing hgd d s dT sT ho elem hu hsz AQ A dl cQ ys.length c hd hs h0 ?_
    have e0 : ys.take (xs.length - N) = [] := List.eq_nil_of_length_eq_zero (by rw [List.length_take, ← hdl, Nat.min_comm]; exact h0)
    have := h W (by rw [e0]; exact hr) HB ⟨rfl, rfl, rfl, Nat.le_refl _, fun _ _ _ => rfl⟩
    rwa [h0] at this
  · have hpos : 0 < dl := Nat.lt_of_lt_of_le (Nat.pos_of_ne_zero h0) (Nat.min_le_right _ _)
    obtain ⟨g, cap, hv, hg, _, _⟩ := Kd.R_form hr (by omega)
    injection hv with hv1 hv2 hv3
    subst hv1 hv3
    rw [if_neg (by omega)] at hA
    have hA' : AQ = some ⟨g, N, none⟩ := by rw [hA]; by_cases hz : N = 0 <;> simp [Addr.add, hz]
    rw [hA'] at hd
    have e1 : xs.length - N = dl := hdl.symm
    rw [e1] at h
    exact copy_row hgd d s dT sT ho elem hu hsz N xs ys g c0 dl cQ A c hd hs hr (by omega) hsrc HB hg h
/-- '[]byte("..")' of a constant: the row gets its mark, and is read from then on -/
theorem mark_const {P : Program} {w0 W : World} {ops : Array Oper} {rest : List Oper} {o : Oper} {a : Act} {Q : Exit → Act → World → Prop} (hgd : o.guard = none) (x : Operand) (T : TypeId)
    (ho : o.op = .convert T T x) (elem : TypeId) (hu : P.underlying T = some (.slice elem)) (he : P.underlying elem = some (.int .u8))
    (xs : List Int) (A : Option Addr) (n c : Nat) (hd : a.eval x = .slice A n c) (ys : List Int) (hy : ys = xs) (hp : 0 < xs.length)
    (hr : (Kd.int .u8).R e W base ok (.slice A n c) xs) (HB : Below base w0 W)
    (h : ∀ W', (Kd.int .u8).C W' A ys.length ys → ys.length ≤ c → Below base w0 W' → W.grownBy W' (Value.slice A n c).ownBlock → wpList P ops Q rest (a.put o.dst (.slice A ys.length c)) W') :
    wpList P ops Q (o :: rest) a W := by
  obtain ⟨hn, hc, hC⟩ := Kd.R_reads' hr
  subst hy
  obtain ⟨g, cap, hv, hg, hlt, cells, hh⟩ := Kd.R_form hr hp
  injection hv with hv1 hv2 hv3
  subst hv1 hv3
  have hsh : W.shape? g = some (e, cells.size) := by unfold World.shape?; rw [hh]
  have hW : W.freeze ⟨g, cells.size, none⟩ 1 = { W with heap := W.heap.modify g fun | .cells c el (lo, hi) => .cells c el (if lo == hi then (cells.size, cells.size + 1) else (min lo cells.size, max hi (cells.size + 1))) | o => o } := by
    unfold World.freeze; rw [if_neg (by decide)]; rfl
  have hoth : ∀ k, k ≠ g → (W.freeze ⟨g, cells.size, none⟩ 1).heap[k]? = W.heap[k]? := by
    intro k hk
    rw [hW]
    simp only [Array.getElem?_modify]
    rw [if_neg (fun q => hk q.symm)]
  have hme : (W.freeze ⟨g, cells.size, none⟩ 1).heap[g]? = some (.cells cells e (cells.size, cells.size + 1)) := by
    rw [hW]
    simp only [Array.getElem?_modify, if_true, hh, Option.map_some]
    simp
  have hgr : W.grownBy (W.freeze ⟨g, cells.size, none⟩ 1) (some g) := by
    refine ⟨by rw [hW], by rw [hW], by rw [hW], by rw [hW]; simp, fun k _ hk => hoth k (fun q => hk (by rw [q]))⟩
  have hcell : ∀ (ad : Addr) (v : Value), W.cell? ad = some v → ad.spot = none → (W.freeze ⟨g, cells.size, none⟩ 1).cell? ad = some v := by
    intro ad v hv hs
    by_cases q : ad.block = g
    · obtain ⟨b, o, s⟩ := ad
      simp only at q hs
      subst q hs
      simp only [World.cell?, hme]
      simpa [World.cell?, hh] using hv
    · rw [← hv]
      unfold World.cell?
      rw [hoth _ q]
  have hrun : (convert T T (.slice (some ⟨g, 0, none⟩) n c)).run P W = .ok (.slice (some ⟨g, 0, none⟩) n c) (W.freeze ⟨g, cells.size, none⟩ 1) := by
    simp [convert, run_underlying hu, run_underlying he, markStringish, hsh]
  have hC' : (Kd.int .u8).C (W.freeze ⟨g, cells.size, none⟩ 1) (some ⟨g, 0, none⟩) ys.length ys := by
    have h1 := Kd.reads_of_C (d := (0 : Int)) hC
    refine Kd.C_of_reads (d := (0 : Int)) (h1 := fun _ => rfl) ⟨h1.1, h1.2.1, fun h0 => ?_⟩
    obtain ⟨ad, e1, hcc⟩ := h1.2.2 h0
    injection e1 with e1
    subst e1
    exact ⟨_, rfl, fun j hj => hcell _ _ (hcc j hj) (by simp [Addr.add]; split <;> rfl)⟩
  rw [← hn] at h
  have hfin := h _ (by rw [hn]; exact hC') hc (HB.grown hgr (by omega) (fun k hk => by cases hk; exact hg)) hgr
  clear h
  refine wpList_plain hgd fun K hK => ?_
  unfold Oper.wp
  simp [execOp, ho, hd, hrun, Result.andThen]
  exact hK _ _ hfin
end
/-- what reads, read by its footprint -/
theorem V_of_C {k : IntKind} {e : Nat} {W : World} {base : Nat} {A : Option Addr} {c : Nat} {xs : List Int} (h : (Kd.int k).C W A xs.length xs) (hc : xs.length ≤ c) : Kd.V (Kd.int k) e W base (fun _ => True) (.slice A xs.length c) xs := by
  refine ⟨A, c, rfl, hc, fun W' hW => ?_⟩
  have h1 := Kd.reads_of_C (d := (0 : Int)) h
  refine Kd.C_of_reads (d := (0 : Int)) (h1 := fun _ => rfl) ⟨h1.1, h1.2.1, fun h0 => ?_⟩
  obtain ⟨ad, e1, hcc⟩ := h1.2.2 h0
  refine ⟨ad, e1, fun j hj => ?_⟩
  have hx := hcc j hj
  have hlt := World.block_lt_of_cell? W _ hx
  rw [← hx]
  unfold World.cell?
  rw [hW _ trivial hlt]
/-- a row of slices that the call has just laid, read -/
theorem C_rows {k : IntKind} {e : Nat} {W : World} {g : Nat} {T : TypeId} {fr : Nat × Nat} (vs : List Value) (ls : List (List Int)) (hh : W.heap[g]? = some (.cells vs.toArray T fr)) (hlen : vs.length = ls.length)
    (h : ∀ (j : Nat) (v : Value) (l : List Int), vs[j]? = some v → ls[j]? = some l → ∃ A c, v = .slice A l.length c ∧ l.length ≤ c ∧ (Kd.int k).C W A l.length l) (hb : ls.length ≤ 9223372036854775807) :
    (Kd.slice e (Kd.int k)).C W (some ⟨g, 0, none⟩) ls.length ls := by
  refine ⟨rfl, hb, fun _ => ⟨_, rfl, fun j l hl => ?_⟩⟩
  have hj : j < vs.length := by
    rcases Nat.lt_or_ge j ls.length with q | q
    · omega
    · rw [List.getElem?_eq_none q] at hl; cases hl
  obtain ⟨A, c, hv, hc, hC⟩ := h j _ l (List.getElem?_eq_getElem hj) hl
  refine ⟨[.slice A l.length c], rfl, ⟨A, c, rfl, hc, hC⟩, fun i u hu => ?_⟩
  have hi : i = 0 := by
    rcases Nat.lt_or_ge i 1 with q | q
    · omega
    · rw [List.getElem?_eq_none (by simpa using q)] at hu; cases hu
  subst hi
  simp only [List.getElem?_cons_zero, Option.some.injEq] at hu
  subst hu
  have e1 : (Addr.add ⟨g, 0, none⟩ (j * (Kd.slice e (Kd.int k)).sz + 0)) = ⟨g, j, none⟩ := by
    show Addr.add ⟨g, 0, none⟩ (j * 1 + 0) = _
    by_cases hz : j = 0
    · subst hz; rfl
    · simp [Addr.add, hz]
  rw [e1]
  simp only [World.cell?, hh]
  simp [List.getElem?_eq_getElem hj, hv]
end Go.Proofs.Ythpkhegoamhgeaa.Copy
