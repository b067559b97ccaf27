/- slices.Insert of a list of volumes, walked in this program. No condition. -/
import Derived.Test.YtfenkpghcbohdaaDenZ
import Derived.WalkKit
import Derived.Lib.Walk
import Derived.Lib.SliceRun
import Derived.Lib.JoinLaws
import Derived.Lib.AppendZeros
import Derived.Lib.AppendZerosOnto
import Derived.Lib.Overlaps
import Derived.Laws.Externs
import Derived.Laws.IdiomCopy
import Derived.Laws.NewBlocks
import Derived.Shelf.Spec.SlicesInsertGrow
set_option linter.unusedVariables false
set_option linter.unusedSimpArgs false
namespace Go.Proofs.Ytfenkpghcbohdaa.Den
open Go Go.RowKit Go.Shelf Go.Lib
/-- copy of elements of several cells, in terms of cells alone -/
theorem run_copy_cellsN {P : Program} (w : World) (dT sT ty elem : TypeId) (k b o dLen dCap : Nat) (a : Addr) (sLen sCap : Nat) (cs : List Value)
    (hu : P.underlying dT = some (.slice elem)) (hs : (P.info? elem).map (·.size) = some k) (hn : cs.length = Nat.min sLen dLen * k)
    (hsrc : ∀ j v, cs[j]? = some v → w.cell? (a.add j) = some v) (hc : ∀ j, j < cs.length → (w.cell? ⟨b, o + j, none⟩).isSome = true) (hf : ∀ j, j < cs.length → w.frozen? ⟨b, o + j, none⟩ = false) (h1 : ∀ v ∈ cs, v.oneCell' = true) :
    (Builtin.copy_ #[dT, sT] ty #[.slice (some ⟨b, o, none⟩) dLen dCap, .slice (some a) sLen sCap]).run P w = .ok (goInt (Nat.min sLen dLen)) (w.setCells b o cs) := by
  have hl := run_loadCells_list (P := P) w a cs hsrc
  have hst := run_storeCells_cells (P := P) b o cs 0 w (by simpa using hc) (by simpa using hf) h1
  cases hq : P.info? elem with
  | none => simp [hq] at hs
  | some i =>
    have hi : i.size = k := by simpa [hq] using hs
    simp [Builtin.copy_, run_underlying hu, Builtin.lenOf, Builtin.firstCells, sizeOf, typeInfo, hq, hi, ← hn, hl, hst]
theorem under59 : Try.prog.underlying 59 = some (.slice 58) := by kernel_rfl
theorem size58 : (Try.prog.info? 58).map (·.size) = some 5 := by kernel_rfl
theorem sizeOf58 : ∀ w, (Go.sizeOf 58).run Try.prog w = .ok 5 w := fun w => by
  cases hq : Try.prog.info? 58 with
  | none => have := size58; simp [hq] at this
  | some i =>
    have hi : i.size = 5 := by have := size58; simpa [hq] using this
    simp [sizeOf, typeInfo, hq, hi]
set_option maxHeartbeats 4000000 in
set_option maxRecDepth 100000 in
/-- there is room, ahead of the end: in place -/
theorem ins_shift (b n c i vb vo vc : Nat) (cs vs : List Value) (w : World) (hi : i < n) (hroom : n + 1 ≤ c) (hbig : (n + 1) * 72 ≤ 140737488355328) (hvb : vb ≠ b)
    (hcl : cs.length = n * 5) (hvl : vs.length = 5)
    (hcs : ∀ j v, cs[j]? = some v → w.cell? ⟨b, j, none⟩ = some v) (hsp : ∀ j, j < (n + 1) * 5 → (w.cell? ⟨b, j, none⟩).isSome = true) (hfz : ∀ j, j < (n + 1) * 5 → w.frozen? ⟨b, j, none⟩ = false)
    (hvs : ∀ j v, vs[j]? = some v → w.cell? ⟨vb, vo + j, none⟩ = some v) (h1c : ∀ v ∈ cs, v.oneCell' = true) (h1v : ∀ v ∈ vs, v.oneCell' = true)
    (tA tB : TypeId) (kA kB : Nat) (hsa : w.shape? vb = some (tA, kA)) (hsb : w.shape? b = some (tB, kB)) (hkB : kB ≠ 0) (hfa : w.frozen? ⟨vb, vo, none⟩ = false) (hfe : w.frozen? ⟨vb, kA, none⟩ = false) :
    Calls Try.prog 110 #[.slice (some ⟨b, 0, none⟩) n c, .int .i64 i, .slice (some ⟨vb, vo, none⟩) 1 vc] w fun e w' =>
      e = .returned (.slice (some ⟨b, 0, none⟩) (n + 1) c) ∧ w' = (w.drew.setCells b ((i + 1) * 5) (cs.drop (i * 5))).setCells b (i * 5) vs := by
  have hz2 : ¬ ((i : Int) = (n : Int)) := by omega
  have hov : ∀ lb cb, (callFunc 117 #[.slice (some ⟨vb, vo, none⟩) 1 vc, .slice (some ⟨b, (i + 1) * 5, none⟩) lb cb]).run Try.prog w = .ok (.value (.bool false)) w := fun lb cb => by
    rw [run_callFunc_extern Try.func117 (by kernel_rfl) (by kernel_rfl) (by kernel_rfl) (e := Extern.SlicesOverlaps.overlaps #[59, 59] #[4]) (by kernel_rfl),
      Lib.run_overlaps_apart w 59 4 58 under59 5 sizeOf58 ⟨vb, vo, none⟩ ⟨b, (i + 1) * 5, none⟩ 1 vc lb cb hvb tA tB kA kB hsa hsb hkB hfa hfe]
    rfl
  have hdl : (cs.drop (i * 5)).length = (n - i) * 5 := by rw [List.length_drop, hcl]; omega
  have hw1 : IntKind.i64.wrap ((i : Int) + 1) = (i : Int) + 1 := by rw [IntKind.wrap_i64]; omega
  have hb1 : (0 : Int) ≤ (i : Int) + 1 := by omega
  have hin : i ≤ n := by omega
  have htn : ((i : Int) + 1).toNat = i + 1 := by omega
  have hb2 : ¬ (c = i + 1) := by omega
  have hb3 : (i : Int) ≤ (n : Int) + 1 := by omega
  have hb4 : ¬ (c = i) := by omega
  have hcp1 : ∀ ty dc sc, (Builtin.copy_ #[59, 59] ty #[.slice (some ⟨b, (i + 1) * 5, none⟩) (n - i) dc, .slice (some ⟨b, i * 5, none⟩) (n + 1 - i) sc]).run Try.prog w.drew = .ok (goInt ((n - i : Nat) : Int)) (w.drew.setCells b ((i + 1) * 5) (cs.drop (i * 5))) := fun ty dc sc => by
    have e : Nat.min (n + 1 - i) (n - i) = n - i := by simp only [Nat.min_def]; split <;> omega
    have := run_copy_cellsN (P := Try.prog) w.drew 59 59 ty 58 5 b ((i + 1) * 5) (n - i) dc ⟨b, i * 5, none⟩ (n + 1 - i) sc (cs.drop (i * 5)) under59 size58 (by rw [hdl, e])
      (fun j v hj => by rw [Addr.add_lit]; exact hcs (i * 5 + j) v (by rwa [List.getElem?_drop] at hj))
      (fun j hj => by exact hsp _ (by omega)) (fun j hj => by exact hfz _ (by omega)) (fun v hv => h1c v (List.mem_of_mem_drop hv))
    rw [e] at this
    exact this
  obtain ⟨W1, hW1⟩ : ∃ W1, W1 = w.drew.setCells b ((i + 1) * 5) (cs.drop (i * 5)) := ⟨_, rfl⟩
  have hsp1 : ∀ k, k < (n + 1) * 5 → (W1.cell? ⟨b, k, none⟩).isSome = true := fun k hk => by
    rw [hW1]
    exact isSome_setCells b _ _ _ (fun j hj => by exact hsp _ (by omega)) _ (hsp k hk)
  have hcp2 : ∀ (W : World), (∀ x, W.cell? x = W1.cell? x) → (∀ x, W.frozen? x = W1.frozen? x) → ∀ ty dc, (Builtin.copy_ #[59, 59] ty #[.slice (some ⟨b, i * 5, none⟩) (n + 1 - i) dc, .slice (some ⟨vb, vo, none⟩) 1 vc]).run Try.prog W = .ok (goInt 1) (W.setCells b (i * 5) vs) := fun W hWc hWf ty dc => by
    have e : Nat.min 1 (n + 1 - i) = 1 := by simp only [Nat.min_def]; split <;> omega
    have := run_copy_cellsN (P := Try.prog) W 59 59 ty 58 5 b (i * 5) (n + 1 - i) dc ⟨vb, vo, none⟩ 1 vc vs under59 size58 (by rw [hvl, e])
      (fun j v hj => by
        rw [Addr.add_lit, hWc, hW1, World.cell?_setCells_out b _ _ _ _ (fun h _ => absurd h hvb)]
        exact hvs j v hj)
      (fun j hj => by rw [hWc]; exact hsp1 _ (by omega)) (fun j hj => by rw [hWf, hW1, World.frozen?_setCells]; exact hfz _ (by omega)) h1v
    rw [e] at this
    exact this
  rw [← hW1] at hcp1
  have mixed : Try.prog.follows .mixedOrders = true := Checked.mixed Try.checked
  go_enter Try.func110, Try.ntmps110
  go_wp2_with (simp only [hov])
  go_region_law_o (refine step_copy_runI rfl _ _ 59 59 rfl _ _ (by simp [Act.eval, Act.put]) (by simp [Act.eval, Act.put]) (hcp1 _ _ _) ?_)
  go_wp2_with (at_builtin; refine wpList_copy_runI _ rfl _ _ 59 59 rfl _ _ rfl rfl (hcp2 _ (fun _ => rfl) (fun _ => rfl) _ _) ?_)
  go_ret
  first | exact ⟨rfl, rfl⟩ | exact ⟨rfl, by rw [hW1]⟩
theorem under3' : Try.prog.underlying 3 = some (.int .i64) := by kernel_rfl
/-- the zero volume -/
def volZ : Value := .agg #[.string (⟨#[]⟩ : ByteArray), .string (⟨#[]⟩ : ByteArray), .bool false, .int .i64 0, .slice none 0 0]
theorem info58 : (Try.prog.info? 58).map (fun i => (i.zero, i.size, i.bytes)) = some (some volZ, 5, 72) := by kernel_rfl
set_option maxHeartbeats 4000000 in
set_option maxRecDepth 100000 in
/-- there is no room: a new row -/
theorem ins_grow (b n c i vb vo vc : Nat) (cs vs : List Value) (w : World) (hi : i < n) (hnc : n ≤ c) (hroom : c < n + 1) (hbig : (n + 1) * 72 ≤ 140737488355328)
    (hcl : cs.length = n * 5) (hvl : vs.length = 5)
    (hcs : ∀ j v, cs[j]? = some v → w.cell? ⟨b, j, none⟩ = some v)
    (hvs : ∀ j v, vs[j]? = some v → w.cell? ⟨vb, vo + j, none⟩ = some v) (h1c : ∀ v ∈ cs, v.oneCell' = true) (h1v : ∀ v ∈ vs, v.oneCell' = true) :
    Calls Try.prog 110 #[.slice (some ⟨b, 0, none⟩) n c, .int .i64 i, .slice (some ⟨vb, vo, none⟩) 1 vc] w fun e w' =>
      e = .returned (.slice (some ⟨w.heap.size, 0, none⟩) (n + 1) (grownCap w (n + 1) c 58)) ∧
      w' = (((w.alloc (.cells ((cs.take (i * 5)).toArray ++ Builtin.zeroCells volZ.cells (n + 1 - i) ++ Builtin.zeroCells volZ.cells (grownCap w (n + 1) c 58 - (n + 1))) 58)).drew.setCells w.heap.size (i * 5) vs).drew).setCells w.heap.size ((i + 1) * 5) (cs.drop (i * 5)) := by
  obtain ⟨i0, hi0, hz0, hzs, hzb⟩ := info_parts info58
  have mixed : Try.prog.follows .mixedOrders = true := Checked.mixed Try.checked
  have hz2 : ¬ ((i : Int) = (n : Int)) := by omega
  have hz3 : (c : Int) < (n : Int) + 1 := by omega
  have hbw : b < w.heap.size := block_lt_of_cell (hcs 0 _ (List.getElem?_eq_getElem (by omega)))
  have hvw : vb < w.heap.size := block_lt_of_cell (hvs 0 _ (List.getElem?_eq_getElem (by omega)))
  have hkk : (n : Int) + 1 - (i : Int) = ((n + 1 - i : Nat) : Int) := by omega
  have hik : i + (n + 1 - i) = n + 1 := by omega
  have hold : (Builtin.firstCells i0.size i (.slice (some ⟨b, 0, none⟩) i c)).run Try.prog w.drew = .ok (cs.take (i * 5)).toArray w.drew := by
    rw [hzs]
    exact run_firstCells_some w.drew 5 i ⟨b, 0, none⟩ i c (cs.take (i * 5)) (by rw [List.length_take]; omega) (fun j v hj => by
      rw [Addr.add_lit, Nat.zero_add]
      rw [List.getElem?_take] at hj
      split at hj
      · exact hcs j v hj
      · cases hj)
  have hrz : ∀ ty, (Builtin.append_ #[59, 3] ty #[.slice (some ⟨b, 0, none⟩) i c, .int .i64 ((n : Int) + 1 - (i : Int))]).run Try.prog w =
      .ok (.slice (some ⟨w.heap.size, 0, none⟩) (n + 1) (grownCap w (n + 1) c 58)) (w.drew.alloc (.cells ((cs.take (i * 5)).toArray ++ Builtin.zeroCells volZ.cells (n + 1 - i) ++ Builtin.zeroCells volZ.cells (grownCap w (n + 1) c 58 - (n + 1))) 58)) := fun ty => by
    have h := Lib.run_append_grow_zeros w 59 3 ty 58 i0 _ .i64 .i64 under59 under3' hi0 hz0 (some ⟨b, 0, none⟩) i c (cs.take (i * 5)) hold (n + 1 - i) (by omega) (by omega) (by omega) (by omega) (by rw [hzb]; omega) (by rw [hzb, hik]; exact growslice_fits hroom hbig)
    rw [hik] at h
    rw [hkk]
    exact h
  obtain ⟨G, hG⟩ : ∃ G, G = grownCap w (n + 1) c 58 := ⟨_, rfl⟩
  obtain ⟨ROW, hROW⟩ : ∃ ROW : Array Value, ROW = (cs.take (i * 5)).toArray ++ Builtin.zeroCells volZ.cells (n + 1 - i) ++ Builtin.zeroCells volZ.cells (G - (n + 1)) := ⟨_, rfl⟩
  rw [← hG] at hrz ⊢
  rw [← hROW] at hrz ⊢
  have zc : ∀ m, (Builtin.zeroCells volZ.cells m).size = m * 5 := fun m => by rw [zeroCells_size]; rfl
  have hRl : (n + 1) * 5 ≤ ROW.size := by
    rw [hROW, Array.size_append, Array.size_append, zc, zc, List.size_toArray, List.length_take]
    omega
  obtain ⟨W1, hW1⟩ : ∃ W1, W1 = w.drew.alloc (.cells ROW 58) := ⟨_, rfl⟩
  rw [← hW1] at hrz
  have hN : ∀ j, j < (n + 1) * 5 → (W1.cell? ⟨w.heap.size, j, none⟩).isSome = true := fun j hj => by
    rw [hW1, World.cell?_alloc_at (w := w.drew) ROW _ w.heap.size j rfl, Array.getElem?_eq_getElem (by omega)]; rfl
  have hNf : ∀ j, W1.frozen? ⟨w.heap.size, j, none⟩ = false := fun j => by rw [hW1]; exact World.frozen?_alloc_at (w := w.drew) ROW _ w.heap.size j rfl
  have hOb : ∀ j v, w.cell? ⟨b, j, none⟩ = some v → W1.cell? ⟨b, j, none⟩ = some v := fun j v h => by rw [hW1, World.cell?_alloc_past (w := w.drew) _ b j hbw]; exact h
  have hOv : ∀ j v, w.cell? ⟨vb, j, none⟩ = some v → W1.cell? ⟨vb, j, none⟩ = some v := fun j v h => by rw [hW1, World.cell?_alloc_past (w := w.drew) _ vb j hvw]; exact h
  have hcpA : ∀ (W : World), (∀ x, W.cell? x = W1.cell? x) → (∀ x, W.frozen? x = W1.frozen? x) → ∀ ty dc, (Builtin.copy_ #[59, 59] ty #[.slice (some ⟨w.heap.size, i * 5, none⟩) (n + 1 - i) dc, .slice (some ⟨vb, vo, none⟩) 1 vc]).run Try.prog W = .ok (goInt 1) (W.setCells w.heap.size (i * 5) vs) := fun W hWc hWf ty dc => by
    have e : Nat.min 1 (n + 1 - i) = 1 := by simp only [Nat.min_def]; split <;> omega
    have := run_copy_cellsN (P := Try.prog) W 59 59 ty 58 5 w.heap.size (i * 5) (n + 1 - i) dc ⟨vb, vo, none⟩ 1 vc vs under59 size58 (by rw [hvl, e])
      (fun j v hj => by rw [Addr.add_lit, hWc]; exact hOv _ v (hvs j v hj))
      (fun j hj => by rw [hWc]; exact hN _ (by omega)) (fun j hj => by rw [hWf]; exact hNf _) h1v
    rw [e] at this
    exact this
  have hGn : n + 1 ≤ G := by rw [hG]; exact grownCap_ge w _ _ _
  have hG63 : G ≤ 9223372036854775807 := by
    have := grownCap_le_maxLen w (n + 1) c 58 (by unfold maxLen; omega)
    rw [← hG] at this
    unfold maxLen at this
    omega
  have hGi : ¬ (G = i) := by omega
  have hGim : ¬ (G = i + 1) := by omega
  have hci : ¬ (c = i) := by omega
  have hbN : b ≠ w.heap.size := by omega
  have hdl : (cs.drop (i * 5)).length = (n - i) * 5 := by rw [List.length_drop, hcl]; omega
  have hcpB : ∀ (W : World), (∀ x, W.cell? x = (W1.setCells w.heap.size (i * 5) vs).cell? x) → (∀ x, W.frozen? x = (W1.setCells w.heap.size (i * 5) vs).frozen? x) → ∀ ty dc sc, (Builtin.copy_ #[59, 59] ty #[.slice (some ⟨w.heap.size, (i + 1) * 5, none⟩) (n - i) dc, .slice (some ⟨b, i * 5, none⟩) (n - i) sc]).run Try.prog W = .ok (goInt ((n - i : Nat) : Int)) (W.setCells w.heap.size ((i + 1) * 5) (cs.drop (i * 5))) := fun W hWc hWf ty dc sc => by
    have e : Nat.min (n - i) (n - i) = n - i := Nat.min_self _
    have := run_copy_cellsN (P := Try.prog) W 59 59 ty 58 5 w.heap.size ((i + 1) * 5) (n - i) dc ⟨b, i * 5, none⟩ (n - i) sc (cs.drop (i * 5)) under59 size58 (by rw [hdl, e])
      (fun j v hj => by
        rw [Addr.add_lit, hWc, World.cell?_setCells_out _ _ _ _ _ (fun h _ => absurd h hbN)]
        exact hOb _ v (hcs (i * 5 + j) v (by rwa [List.getElem?_drop] at hj)))
      (fun j hj => by rw [hWc]; exact isSome_setCells _ _ _ _ (fun t ht => hN _ (by omega)) _ (hN _ (by omega)))
      (fun j hj => by rw [hWf, World.frozen?_setCells]; exact hNf _) (fun v hv => h1c v (List.mem_of_mem_drop hv))
    rw [e] at this
    exact this
  subst hW1
  have hE1 : ∀ x, ((w.alloc (.cells ROW 58)).drew).cell? x = (w.drew.alloc (.cells ROW 58)).cell? x := fun x => rfl
  have hE2 : ∀ x, ((w.alloc (.cells ROW 58)).drew).frozen? x = (w.drew.alloc (.cells ROW 58)).frozen? x := fun x => rfl
  have hF1 : ∀ x, (((w.alloc (.cells ROW 58)).drew.setCells w.heap.size (i * 5) vs).drew).cell? x = ((w.drew.alloc (.cells ROW 58)).setCells w.heap.size (i * 5) vs).cell? x := fun x => rfl
  have hF2 : ∀ x, (((w.alloc (.cells ROW 58)).drew.setCells w.heap.size (i * 5) vs).drew).frozen? x = ((w.drew.alloc (.cells ROW 58)).setCells w.heap.size (i * 5) vs).frozen? x := fun x => rfl
  have hw1 : IntKind.i64.wrap ((i : Int) + 1) = (i : Int) + 1 := by rw [IntKind.wrap_i64]; omega
  have hb1 : (0 : Int) ≤ (i : Int) + 1 := by omega
  have hin : i ≤ n := by omega
  have htn : ((i : Int) + 1).toNat = i + 1 := by omega
  have hb3 : (i : Int) ≤ (n : Int) := by omega
  clear hkk hik hold hROW hG hRl
  go_enter Try.func110, Try.ntmps110
  go_wp2_with (first
    | (at_builtin; refine Lib.wpList_append_run _ rfl _ _ _ _ rfl _ _ rfl rfl _ _ (hrz _) ?_)
    | (at_builtin; refine wpList_copy_runI _ rfl _ _ 59 59 rfl _ _ rfl rfl (hcpA _ hE1 hE2 _ _) ?_)
    | (at_builtin; refine wpList_copy_runI _ rfl _ _ 59 59 rfl _ _ rfl rfl (hcpB _ (fun _ => rfl) (fun _ => rfl) _ _ _) ?_))
  go_region_law_o (refine step_copy_runI rfl _ _ 59 59 rfl (.slice (some ⟨w.heap.size, (i + 1) * 5, none⟩) (n - i) (G - (i + 1))) (.slice (some ⟨b, i * 5, none⟩) (n - i) (c - i)) (by simp [Act.eval, Act.put]) (by simp [Act.eval, Act.put]) (hcpB _ hF1 hF2 3 (G - (i + 1)) (c - i)) ?_)
  go_wp2
  go_ret
  exact ⟨rfl, rfl⟩
set_option maxHeartbeats 4000000 in
set_option maxRecDepth 100000 in
/-- at the end: what append does -/
theorem ins_end {a : Option Addr} {n c vb vo vc : Nat} {w w' : World} {u : Value} (ha : a = none ∨ ∃ b o, a = some ⟨b, o, none⟩)
    (hrun : (Builtin.append_ #[59, 59] 59 #[.slice a n c, .slice (some ⟨vb, vo, none⟩) 1 vc]).run Try.prog w = .ok u w') :
    Calls Try.prog 110 #[.slice a n c, .int .i64 n, .slice (some ⟨vb, vo, none⟩) 1 vc] w fun e w1 => e = .returned u ∧ w1 = w' := by
  have mixed : Try.prog.follows .mixedOrders = true := Checked.mixed Try.checked
  go_enter Try.func110, Try.ntmps110
  rcases ha with rfl | ⟨b, o, rfl⟩
  · go_wp2_with (at_builtin; refine Lib.wpList_append_run _ rfl _ _ _ _ rfl _ _ rfl rfl _ _ hrun ?_)
    go_ret
    exact ⟨rfl, rfl⟩
  · go_wp2_with (at_builtin; refine Lib.wpList_append_run _ rfl _ _ _ _ rfl _ _ rfl rfl _ _ hrun ?_)
    all_goals (go_ret; exact ⟨rfl, rfl⟩)
/-! ### the machine's -/
theorem setCells_facts {w : World} {r o : Nat} {e : TypeId} {fz : Nat × Nat} {c : Array Value} {vs : List Value} (h : w.heap[r]? = some (.cells c e fz)) (hs : o + vs.length ≤ c.size) (hf : ∀ k, k < c.size → ¬ (fz.1 ≤ k ∧ k < fz.2)) (h1 : ∀ v ∈ vs, v.oneCell' = true) :
    ∃ c' : Array Value, (w.setCells r o vs).heap[r]? = some (.cells c' e fz) ∧ c'.size = c.size ∧ (∀ k, c'[k]? = if o ≤ k ∧ k < o + vs.length then vs[k - o]? else c[k]?) ∧ (∀ k, k ≠ r → (w.setCells r o vs).heap[k]? = w.heap[k]?) ∧ (w.setCells r o vs).heap.size = w.heap.size ∧ (w.setCells r o vs).os = w.os ∧ (w.setCells r o vs).tape = w.tape ∧ (w.setCells r o vs).output = w.output := by
  obtain ⟨w', c', k1, k2, k3, k4, k5⟩ := storeCells_run (P := Try.prog) vs o 0 w c h (by omega) hf h1
  have e := run_storeCells_cells (P := Try.prog) r o vs 0 w (fun j hj => by rw [cell_eq h, Array.getElem?_eq_getElem (by omega)]; rfl) (fun j hj => by
    have := hf (o + 0 + j) (by omega)
    unfold World.frozen?
    simp only [h]
    simp only [Bool.and_eq_false_iff, decide_eq_false_iff_not]
    omega) h1
  rw [k1] at e
  have e : w' = w.setCells r o vs := by injection e
  subst e
  exact ⟨c', k2, k3, k4, k5⟩
theorem zero58 : zeroA Try.prog 58 = some volZ := by kernel_rfl
theorem sizeA58 : sizeA Try.prog 58 = some 5 := by kernel_rfl
theorem apN_app (a : Option Addr) (n c m : Nat) (new : List Value) (h : H) : appendN Try.prog 58 (.slice a n c) m new h = apN 58 5 72 (.slice a n c) m new h := by
  obtain ⟨i0, hi0, hz0, hzs, hzb⟩ := info_parts info58
  unfold appendN apN
  simp only [hi0, zero58, hzs, hzb]
  have e : (!(Nat.beq volZ.cells.size 5) || Nat.beq 5 0 || Nat.beq 72 0 || Nat.blt 140737488355328 ((n + m) * 72) || !(new.all one) || !(Nat.beq new.length (m * 5))) = (Nat.blt 140737488355328 ((n + m) * 72) || !(new.all one) || !(Nat.beq new.length (m * 5))) := rfl
  rw [e]
  rcases a with _ | ⟨b, o, _ | q⟩ <;> rfl
theorem apv_app (a : Option Addr) (n c : Nat) (x : Value) (h : H) : appendA Try.prog 59 (.slice a n c) x h = apv 58 5 72 (.slice a n c) x h := by
  unfold appendA apv
  simp only [under59, sizeA58]
  cases lenV x with
  | none => rfl
  | some m =>
    simp only
    cases firstA h 5 m x with
    | none => rfl
    | some new => exact apN_app a n c m new h
def insRow (old new : List Value) (i : Nat) : List Value := old.take (i * 5) ++ new ++ old.drop (i * 5)
def insG (b n i cap vb : Nat) (B V : Row) : Bool := Nat.blt i n && (Nat.beq cap (unkOf 5) || Nat.beq cap n) && Nat.beq B.es 5 && Nat.beq B.elem 58 && Nat.beq B.n (n * 5) && Nat.ble ((n + 1) * 72) 140737488355328 && Nat.beq V.es 5 && !(Nat.beq vb b)
noncomputable def insM (b n i cap vb vo : Nat) (h : H) : Option (Value × H) :=
  match h.rowAt b, h.rowAt vb with
  | some B, some V => cond (insG b n i cap vb B V)
      (match B.gets 0 (n * 5), V.gets vo 5 with
        | some old, some new => cond (old.all one && new.all one) (some (.slice (some ⟨h.next, 0, none⟩) (n + 1) (unkOf 5), (h.put b (.row false { B with ver := h.clock })).new (rowOf (insRow old new i) 58 5 (h.clock + 1)))) none
        | _, _ => none) none
  | _, _ => none
noncomputable def insV (a : Option Addr) (n cap i : Nat) (v : Value) (h : H) : Option (Value × H) :=
  match v with
  | .slice (some ⟨vb, vo, none⟩) 1 vc => match a with
    | none => cond (Nat.beq i n) (apv 58 5 72 (.slice none n cap) (.slice (some ⟨vb, vo, none⟩) 1 vc) h) none
    | some ⟨b, o, none⟩ => cond (Nat.beq i n) (apv 58 5 72 (.slice (some ⟨b, o, none⟩) n cap) (.slice (some ⟨vb, vo, none⟩) 1 vc) h) (cond (Nat.beq o 0) (insM b n i cap vb vo h) none)
    | _ => none
  | _ => none
theorem insRow_get {old new : List Value} {n i : Nat} (ho : old.length = n * 5) (hn : new.length = 5) (hi : i < n) (k : Nat) : (insRow old new i)[k]? = if k < i * 5 then old[k]? else if k < (i + 1) * 5 then new[k - i * 5]? else old[k - 5]? := by
  unfold insRow
  have lt : (old.take (i * 5)).length = i * 5 := by rw [List.length_take]; omega
  by_cases c1 : k < i * 5
  · rw [if_pos c1, List.append_assoc, List.getElem?_append_left (by omega), List.getElem?_take, if_pos c1]
  · rw [if_neg c1]
    by_cases c2 : k < (i + 1) * 5
    · rw [if_pos c2, List.getElem?_append_left (by rw [List.length_append]; omega), List.getElem?_append_right (by omega), lt]
    · rw [if_neg c2, List.getElem?_append_right (by rw [List.length_append]; omega), List.length_append, lt, hn, List.getElem?_drop]
      congr 1
      omega
theorem insRow_len {old new : List Value} {n i : Nat} (ho : old.length = n * 5) (hn : new.length = 5) (hi : i < n) : (insRow old new i).length = (n + 1) * 5 := by
  unfold insRow
  rw [List.length_append, List.length_append, List.length_take, List.length_drop]
  omega
theorem insM_calls {σ : Sg} {h h' : H} {w : World} (R : Rel σ h w) {b n i cap cap' vb vo r rv vc' : Nat} {u : Value} (hj : σ.j b = some r) (hcap : CapR σ b 0 n cap cap') (hjv : σ.j vb = some rv) (hx : insM b n i cap vb vo h = some (u, h')) :
    Calls Try.prog 110 #[.slice (some ⟨r, 0, none⟩) n cap', .int .i64 i, .slice (some ⟨rv, vo, none⟩) 1 vc'] w fun e w' => ∃ σ' v', e = .returned v' ∧ VR σ' u v' ∧ Rel σ' h' w' ∧ Fr σ h w σ' h' w' := by
  unfold insM at hx
  split at hx
  rotate_left
  · cases hx
  rename_i B V hB hV
  obtain ⟨hg, hx⟩ := cond_some hx
  unfold insG at hg
  simp only [Bool.and_eq_true, Bool.not_eq_true', Bool.or_eq_true] at hg
  obtain ⟨⟨⟨⟨⟨⟨⟨g1, g2⟩, g3⟩, g4⟩, g5⟩, g6⟩, g7⟩, g8⟩ := hg
  have hi : i < n := blt_lt g1
  have hq : cap = unkOf 5 ∨ cap = n := g2.imp beq_eq beq_eq
  have hes := beq_eq g3
  have hel := beq_eq g4
  have hBn := beq_eq g5
  have hbig : (n + 1) * 72 ≤ 140737488355328 := ble_le g6
  have hVs := beq_eq g7
  have hvb : vb ≠ b := fun e => by rw [e, Nat.beq_refl] at g8; cases g8
  split at hx
  rotate_left
  · cases hx
  rename_i old new hold hnew
  obtain ⟨ho, hx⟩ := cond_some hx
  rw [Bool.and_eq_true] at ho
  cases hx
  obtain ⟨c, fz, r1, r2, r3, r4, r5, r6⟩ := R.row hB hj
  obtain ⟨cv, fv, q1, q2, q3, q4, q5, q6⟩ := R.row hV hjv
  have fz0 : fz = (0, 0) := r5.elim id fun f => by rw [hes] at f; exact absurd f.1 (by decide)
  have fv0 : fv = (0, 0) := q5.elim id fun f => by rw [hVs] at f; exact absurd f.1 (by decide)
  subst fz0
  subst fv0
  have hrv : rv ≠ r := fun e => hvb (R.inj vb b _ _ r (H.rowAt_some hV) rfl (H.rowAt_some hB) rfl (by rw [hjv, e]) hj)
  obtain ⟨old', o1, o2, o3⟩ := pick_cells r6 hold
  obtain ⟨new', n1, n2, n3⟩ := pick_cells q6 hnew
  have h1c := o2.ones ho.1
  have h1v := n2.ones ho.2
  have hrlt : r < w.heap.size := (Array.getElem?_eq_some_iff.1 r1).1
  have hcc : n ≤ cap' ∧ (n + 1 ≤ cap' → cap' * 5 = σ.rs b) := by
    rcases hcap with ⟨hc1, hce⟩ | ⟨_, hc2, hc3⟩
    · rcases hq with q | q
      · rw [q] at hc1; unfold unkOf at hc1; omega
      · exact ⟨by omega, fun f => by omega⟩
    · rw [r3, hes, Nat.zero_add] at hc3
      exact ⟨hc2, fun _ => hc3⟩
  obtain ⟨hc2, hc30⟩ := hcc
  have hcs : ∀ j v, old'[j]? = some v → w.cell? ⟨r, j, none⟩ = some v := fun j v hv => by
    have hl := (List.getElem?_eq_some_iff.1 hv).1
    have := o3 j (by omega)
    rw [Nat.zero_add] at this
    rw [cell_eq r1, this, hv]
  have hvs : ∀ j v, new'[j]? = some v → w.cell? ⟨rv, vo + j, none⟩ = some v := fun j v hv => by
    have hl := (List.getElem?_eq_some_iff.1 hv).1
    rw [cell_eq q1, n3 j (by omega), hv]
  have cvpos : vo + 5 ≤ cv.size := by
    have := n3 4 (by omega)
    rw [List.getElem?_eq_getElem (by omega)] at this
    have := (Array.getElem?_eq_some_iff.1 this).1
    omega
  let D : Blk := .row false { B with ver := h.clock }
  have hbn : b < h.next := by
    rcases Nat.lt_or_ge b h.next with k | k
    · exact k
    · rw [R.jdom b k] at hj; cases hj
  have ol : old.length = n * 5 := (Row.gets_spec hold).1
  have nl : new.length = 5 := (Row.gets_spec hnew).1
  -- what the new row's cells are
  have rel : ∀ {σ' : Sg}, σ.le σ' → ∀ k v, (insRow old new i)[k]? = some v → ∃ v', (if k < i * 5 then old'[k]? else if k < (i + 1) * 5 then new'[k - i * 5]? else old'[k - 5]?) = some v' ∧ VR σ' v v' := by
    intro σ' le k v hk
    rw [insRow_get ol nl hi] at hk
    by_cases c1 : k < i * 5
    · rw [if_pos c1] at hk ⊢
      obtain ⟨v', e1, e2⟩ := o2.get k hk
      exact ⟨v', e1, e2.mono le⟩
    · rw [if_neg c1] at hk ⊢
      by_cases c2 : k < (i + 1) * 5
      · rw [if_pos c2] at hk ⊢
        obtain ⟨v', e1, e2⟩ := n2.get _ hk
        exact ⟨v', e1, e2.mono le⟩
      · rw [if_neg c2] at hk ⊢
        obtain ⟨v', e1, e2⟩ := o2.get _ hk
        exact ⟨v', e1, e2.mono le⟩
  by_cases hroom : n + 1 ≤ cap'
  · -- in place
    have hc3 := hc30 hroom
    have csz : (n + 1) * 5 ≤ c.size := by rw [r2, ← hc3]; exact Nat.mul_le_mul_right _ hroom
    refine (ins_shift r n cap' i rv vo vc' old' new' w hi hroom hbig hrv (by omega) n1 hcs (fun j hj => by rw [cell_eq r1, Array.getElem?_eq_getElem (by omega)]; rfl) (fun j hj => by unfold World.frozen?; simp [r1]) hvs h1c h1v V.elem B.elem cv.size c.size (by unfold World.shape?; simp [q1]) (by unfold World.shape?; simp [r1]) (by omega) (by unfold World.frozen?; simp [q1]) (by unfold World.frozen?; simp [q1])).mono ?_
    rintro e w' ⟨rfl, rfl⟩
    have hdl : (old'.drop (i * 5)).length = (n - i) * 5 := by rw [List.length_drop]; omega
    have nf : ∀ {m : Nat} (k : Nat), k < m → ¬ ((0 : Nat) ≤ k ∧ k < 0) := fun k _ hh => by omega
    obtain ⟨c1, k1, k2, k3, k4, k5, k6, k7, k8⟩ := setCells_facts (w := w.drew) (r := r) (o := (i + 1) * 5) (fz := (0, 0)) (c := c) (vs := old'.drop (i * 5)) r1 (by rw [hdl]; omega) (fun k hk => nf k hk) (fun v hv => h1c v (List.mem_of_mem_drop hv))
    obtain ⟨c2, m1, m2, m3, m4, m5, m6, m7, m8⟩ := setCells_facts (o := i * 5) (fz := (0, 0)) (vs := new') k1 (by omega) (fun k hk => nf k hk) h1v
    obtain ⟨R1, F1⟩ := Rel.upd R (x' := D) (o' := .cells c2 B.elem (0, 0)) (H.rowAt_some hB) rfl hj rfl m1 trivial (fun k hk => (m4 k hk).trans (k4 k hk)) (m5.trans k5) (m6.trans k6) (m7.trans k7) (m8.trans k8)
    let N : Row := ⟨cellsPut .nil 0 (insRow old new i), [], (insRow old new i).length, 58, 5, h.clock + 1⟩
    have hfree : ∀ c y, (h.put b D).get c = some y → y.alive = true → σ.j c ≠ some r := by
      intro c0 y hy hya hjc
      rw [H.get_put] at hy
      split at hy
      · cases hy; cases hya
      · rename_i hne; exact hne (R.inj c0 b y _ r hy hya (H.rowAt_some hB) rfl hjc hj)
    have le : σ.le (σ.add h.next r (cap' * 5) 5) := Sg.le_add (R.jdom _ (Nat.le_refl _))
    have hRow : BlkR (σ.add h.next r (cap' * 5) 5) h.next (.row true N) (.cells c2 B.elem (0, 0)) := by
      refine ⟨c2, (0, 0), by rw [hel], ?_, by simp [Sg.add]; rfl, ?_, .inl rfl, fun k u hk => ?_⟩
      · rw [m2, k2, r2, ← hc3]; simp [Sg.add]
      · show (insRow old new i).length ≤ _
        rw [insRow_len ol nl hi, m2, k2]; exact csz
      · have hk : (insRow old new i)[k]? = some u := by rw [← hk]; exact (rowOf_get _ _ _ _ _).symm
        obtain ⟨v', e1, e2⟩ := rel le k u hk
        refine ⟨v', ?_, e2⟩
        rw [m3 k, k3 k]
        by_cases c1 : k < i * 5
        · rw [if_pos c1] at e1
          rw [if_neg (by omega), if_neg (by omega)]
          have := o3 k (by omega)
          rw [Nat.zero_add] at this
          rw [this]; exact e1
        · rw [if_neg c1] at e1
          by_cases c2 : k < (i + 1) * 5
          · rw [if_pos c2] at e1
            rw [if_pos (by omega)]; exact e1
          · rw [if_neg c2] at e1
            have := (List.getElem?_eq_some_iff.1 e1).1
            rw [if_neg (by omega), if_pos (by omega), List.getElem?_drop]
            rw [show i * 5 + (k - (i + 1) * 5) = k - 5 by omega]; exact e1
    have R2 := Rel.move R1 (x := .row true N) (r := r) (rs := cap' * 5) (es := 5) rfl hfree m1 hRow (fun c0 lo l hc0 hjc => (R.ro c0 lo l r (F1.ros c0 lo l hc0) hjc).2 b _ (H.rowAt_some hB) rfl hj)
    refine ⟨_, _, rfl, .slice 0 (n + 1) Sg.add_j (.inr ⟨by simp [Sg.add], hroom, by simp [Sg.add]⟩), R2, ?_⟩
    refine ⟨le, F1.os, F1.tape, F1.output, F1.size, F1.keep, fun c0 hc0 hj0 => ?_, fun c0 s hc0 hjs => ?_, Nat.le_trans F1.next (Nat.le_succ _), Nat.le_trans F1.clock (Nat.le_succ _), fun c0 y hy => ?_, fun c0 hc0 hj0 => ?_, fun c0 q1 q2 => ⟨r, by
      have q2 : c0 < h.next + 1 := q2
      have : c0 = h.next := by omega
      subst this; exact Sg.add_j⟩, fun c0 lo l hc0 => ?_⟩
    · have : c0 ≠ h.next := by omega
      show (σ.add h.next r (cap' * 5) 5).j c0 = none
      simp [Sg.add, this, hj0]
    · by_cases e0 : c0 = h.next
      · subst e0
        have hjs : (σ.add h.next r (cap' * 5) 5).j h.next = some s := hjs
        have : s = r := by simp [Sg.add] at hjs; exact hjs.symm
        subst this
        refine .inr ⟨b, _, H.rowAt_some hB, rfl, hj, D, ?_, rfl⟩
        rw [H.get_new]
        have : b ≠ (h.put b D).next := by show b ≠ h.next; omega
        rw [if_neg this, H.get_put, if_pos rfl]
      · have hjs : (σ.add h.next r (cap' * 5) 5).j c0 = some s := hjs
        simp [Sg.add, e0] at hjs
        rw [R.jdom c0 hc0] at hjs; cases hjs
    · obtain ⟨y', q1, q2⟩ := F1.keepA c0 y hy
      refine ⟨y', ?_, q2⟩
      rw [H.get_new]
      have : c0 ≠ (h.put b D).next := by
        intro e0
        have e0 : c0 = h.next := e0
        rw [e0, R.dom _ (Nat.le_refl _)] at hy; cases hy
      rw [if_neg this]; exact q1
    · rw [H.get_new, if_neg (by show c0 ≠ h.next; omega)]; exact F1.stay c0 hc0 hj0
    · rw [H.get_new] at hc0
      split at hc0
      · cases hc0
      · exact F1.ros c0 lo l hc0
  · -- a new row
    refine (ins_grow r n cap' i rv vo vc' old' new' w hi hc2 (by omega) hbig (by omega) n1 hcs hvs h1c h1v).mono ?_
    rintro e w' ⟨rfl, rfl⟩
    obtain ⟨G, hG⟩ : ∃ G, G = grownCap w (n + 1) cap' 58 := ⟨_, rfl⟩
    have hGn : n + 1 ≤ G := by rw [hG]; exact grownCap_ge w _ _ _
    rw [← hG]
    obtain ⟨ROW, hROW⟩ : ∃ ROW : Array Value, ROW = (old'.take (i * 5)).toArray ++ Builtin.zeroCells volZ.cells (n + 1 - i) ++ Builtin.zeroCells volZ.cells (G - (n + 1)) := ⟨_, rfl⟩
    rw [← hROW]
    have zc : ∀ m, (Builtin.zeroCells volZ.cells m).size = m * 5 := fun m => by rw [zeroCells_size]; rfl
    have hRs : ROW.size = G * 5 := by
      rw [hROW, Array.size_append, Array.size_append, zc, zc, List.size_toArray, List.length_take]
      omega
    have hRt : ∀ k, k < i * 5 → ROW[k]? = old'[k]? := fun k hk => by
      have lt : (old'.take (i * 5)).toArray.size = i * 5 := by rw [List.size_toArray, List.length_take]; omega
      rw [hROW, Array.getElem?_append_left (by rw [Array.size_append, lt]; omega), Array.getElem?_append_left (by rw [lt]; exact hk), List.getElem?_toArray, List.getElem?_take, if_pos hk]
    have hdl : (old'.drop (i * 5)).length = (n - i) * 5 := by rw [List.length_drop]; omega
    have nf : ∀ {m : Nat} (k : Nat), k < m → ¬ ((0 : Nat) ≤ k ∧ k < 0) := fun k _ hh => by omega
    have wA : ((w.alloc (.cells ROW 58)).drew).heap = w.heap.push (.cells ROW 58 (0, 0)) := rfl
    have hA : ((w.alloc (.cells ROW 58)).drew).heap[w.heap.size]? = some (.cells ROW 58 (0, 0)) := by rw [wA]; simp
    obtain ⟨c1, k1, k2, k3, k4, k5, k6, k7, k8⟩ := setCells_facts (o := i * 5) (fz := (0, 0)) (vs := new') hA (by omega) (fun k hk => nf k hk) h1v
    obtain ⟨c2, m1, m2, m3, m4, m5, m6, m7, m8⟩ := setCells_facts (w := (((w.alloc (.cells ROW 58)).drew).setCells w.heap.size (i * 5) new').drew) (r := w.heap.size) (o := (i + 1) * 5) (e := 58) (fz := (0, 0)) (c := c1) (vs := old'.drop (i * 5)) k1 (by rw [hdl]; omega) (fun k hk => nf k hk) (fun v hv => h1c v (List.mem_of_mem_drop hv))
    obtain ⟨W3, hW3⟩ : ∃ W3, W3 = ((((w.alloc (.cells ROW 58)).drew).setCells w.heap.size (i * 5) new').drew).setCells w.heap.size ((i + 1) * 5) (old'.drop (i * 5)) := ⟨_, rfl⟩
    rw [← hW3] at m1 m4 m5 m6 m7 m8 ⊢
    have heap3 : W3.heap = w.heap.push (.cells c2 58 (0, 0)) := by
      apply Array.ext_getElem?
      intro k
      by_cases e : k = w.heap.size
      · rw [e, m1]; simp
      · rw [m4 k e]
        have : (((w.alloc (.cells ROW 58)).drew).setCells w.heap.size (i * 5) new').drew.heap[k]? = ((w.alloc (.cells ROW 58)).drew).heap[k]? := k4 k e
        rw [this, wA, Array.getElem?_push, Array.getElem?_push, if_neg (fun f => e f), if_neg (fun f => e f)]
    obtain ⟨R1, F1⟩ := Rel.upd R (x' := D) (o' := .cells c B.elem (0, 0)) (w' := w) (H.rowAt_some hB) rfl hj rfl r1 trivial (fun _ _ => rfl) rfl rfl rfl rfl
    let N : Row := ⟨cellsPut .nil 0 (insRow old new i), [], (insRow old new i).length, 58, 5, h.clock + 1⟩
    have hsz2 : c2.size = G * 5 := by rw [m2, k2, hRs]
    obtain ⟨R2, F2⟩ := new_row (P := Try.prog) R1 (B := N) (c := c2) (fz := (0, 0)) (w' := W3) rfl heap3 (m6.trans k6) (m7.trans k7) (m8.trans k8) (by
      show (insRow old new i).length ≤ _
      rw [insRow_len ol nl hi, hsz2]; exact Nat.mul_le_mul_right _ hGn) (.inl rfl) (fun k u hk => by
        have hk : (insRow old new i)[k]? = some u := by rw [← hk]; exact (rowOf_get _ _ _ _ _).symm
        obtain ⟨v', e1, e2⟩ := rel (Sg.le.refl σ) k u hk
        refine ⟨v', ?_, e2⟩
        rw [m3 k, k3 k]
        by_cases c1 : k < i * 5
        · rw [if_pos c1] at e1
          rw [if_neg (by omega), if_neg (by omega), hRt k c1]; exact e1
        · rw [if_neg c1] at e1
          by_cases c2 : k < (i + 1) * 5
          · rw [if_pos c2] at e1
            rw [if_neg (by omega), if_pos (by omega)]; exact e1
          · rw [if_neg c2] at e1
            have := (List.getElem?_eq_some_iff.1 e1).1
            rw [if_pos (by omega), List.getElem?_drop]
            rw [show i * 5 + (k - (i + 1) * 5) = k - 5 by omega]; exact e1)
    refine ⟨_, _, rfl, .slice 0 (n + 1) Sg.add_j (.inr ⟨?_, hGn, ?_⟩), R2, Fr.trans R R1 F1 F2⟩
    · show unkOf 5 = unkOf _
      simp [Sg.add]; rfl
    · show 0 + G * _ = _
      rw [show (σ.add h.next w.heap.size c2.size 5).es h.next = 5 by simp [Sg.add], show (σ.add h.next w.heap.size c2.size 5).rs h.next = c2.size by simp [Sg.add], hsz2]; omega
/-! ### the calls of slices.Insert -/
noncomputable def insS (s : Sl) (i : Int) (v : Sl) (h : H) : Option (Value × H) := match i with
  | .ofNat i => insV s.a s.n s.c i (.slice v.a v.n v.c) h
  | _ => none
def InsOk (X : CallF) (f : FuncId) : Prop := ∀ a n cap i v h r, insV a n cap i v h = some r → X f [.slice a n cap, .int .i64 (.ofNat i), v] h = some r
noncomputable def insX : CallF := fun f args h => match args with
  | [.slice a n cap, .int .i64 (.ofNat i), v] => cond (Nat.beq f 110) (insV a n cap i v h) none
  | _ => none
theorem insX_some {k : FuncId} {args : List Value} {h : H} {r : Value × H} (hx : insX k args h = some r) : k = 110 ∧ ∃ a n cap i v, args = [.slice a n cap, .int .i64 (.ofNat i), v] ∧ insV a n cap i v h = some r := by
  unfold insX at hx
  split at hx
  · obtain ⟨h1, h2⟩ := cond_some hx
    exact ⟨Nat.eq_of_beq_eq_true h1, _, _, _, _, _, rfl, h2⟩
  · cases hx
theorem insX_bodied : Bodied Try.prog insX := by
  intro k args h r hx
  obtain ⟨rfl, _⟩ := insX_some hx
  exact ⟨_, Try.func110, rfl⟩
theorem insX_sound : Sound Try.prog insX := by
  intro k args h u h' hx σ w args' ha R
  obtain ⟨rfl, a, n, cap, i, v, rfl, hy⟩ := insX_some hx
  clear hx
  cases ha with
  | cons h1 ha => cases ha with
    | cons h2 ha => cases ha with
      | cons h3 ha =>
        cases ha
        cases h2
        unfold insV at hy
        split at hy
        · rename_i vb vo vc
          cases h3 with
          | slice _ _ hjv hcv =>
            rename_i rv vc'
            have app : ∀ {a' : Option Addr} {cap' : Nat}, VR σ (.slice a n cap) (.slice a' n cap') → (a' = none ∨ ∃ b o, a' = some ⟨b, o, none⟩) → apv 58 5 72 (.slice a n cap) (.slice (some ⟨vb, vo, none⟩) 1 vc) h = some (u, h') → Calls Try.prog 110 #[.slice a' n cap', .int .i64 n, .slice (some ⟨rv, vo, none⟩) 1 vc'] w fun e w' => ∃ σ' v', e = .returned v' ∧ VR σ' u v' ∧ Rel σ' h' w' ∧ Fr σ h w σ' h' w' := by
              intro a' cap' hv ha' he
              rw [← apv_app] at he
              obtain ⟨σ', w', v', e1, e2, e3, e4⟩ := appendA_run (P := Try.prog) R (ts := #[59, 59]) (t := 59) (t1 := 59) (ty := 59) rfl rfl under59 (fun k f => by cases f) hv (.slice vo 1 hjv hcv) he
              refine (ins_end ha' e1).mono ?_
              rintro e w1 ⟨rfl, rfl⟩
              exact ⟨σ', v', rfl, e2, e3, e4⟩
            split at hy
            · obtain ⟨g1, g2⟩ := cond_some hy
              have hi : i = n := Nat.eq_of_beq_eq_true g1
              subst hi
              cases h1 with
              | nils => exact app .nils (.inl rfl) g2
            · rename_i b o
              cases h1 with
              | slice _ _ hj hc =>
                rename_i r cap'
                cases hq : Nat.beq i n with
                | true =>
                  have hi : i = n := Nat.eq_of_beq_eq_true hq
                  subst hi
                  rw [hq] at hy
                  exact app (.slice o i hj hc) (.inr ⟨r, o, rfl⟩) hy
                | false =>
                  rw [hq] at hy
                  obtain ⟨g1, g2⟩ := cond_some hy
                  have ho : o = 0 := Nat.eq_of_beq_eq_true g1
                  subst ho
                  exact insM_calls R hj hc hjv g2
            · cases hy
        · cases hy
end Go.Proofs.Ytfenkpghcbohdaa.Den
