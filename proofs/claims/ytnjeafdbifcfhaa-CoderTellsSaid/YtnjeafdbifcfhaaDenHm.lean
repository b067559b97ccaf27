/- Maps of forward runs whose keys are whole numbers. No condition. -/
import Derived.Test.YtnjeafdbifcfhaaDenHp
namespace Go.Proofs.Ytnjeafdbifcfhaa.Den
open Go
set_option linter.unusedVariables false
set_option linter.unusedSimpArgs false
theorem asP_ptr (p : Option Addr) : asP (some (.pointer p)) = some p := rfl
theorem asI_int (k : IntKind) (n : Int) : asI k (some (.int k n)) = some n := by simp [asI]
def Keys (kk : IntKind) (es : List MapEntry) : Prop := ∀ e ∈ es, ∃ n, e.key = .int kk n
def keyIs (n : Int) (e : MapEntry) : Bool := match e.key with
  | .int _ m => n == m
  | _ => false
def lkE (n : Int) : List MapEntry → Option Value
  | [] => none
  | e :: es => cond (keyIs n e) (some e.val) (lkE n es)
theorem findA_lk {kk : IntKind} (n : Int) : ∀ (es : List MapEntry) (i : Nat), Keys kk es → (lkE n es = none ∧ findA (.int kk n) es i = some none) ∨
    ∃ j v, lkE n es = some v ∧ findA (.int kk n) es i = some (some (i + j, v)) ∧ ∀ v', Keys kk (es.modify j fun e => { e with key := .int kk n, val := v' }) ∧ ∀ m, lkE m (es.modify j fun e => { e with key := .int kk n, val := v' }) = if m = n then some v' else lkE m es
  | [], i, _ => .inl ⟨rfl, rfl⟩
  | e :: es, i, hk => by
    obtain ⟨q, hq⟩ := hk e List.mem_cons_self
    have hk' : Keys kk es := fun x hx => hk x (List.mem_cons_of_mem _ hx)
    have e0 : keyEq (.int kk n) e.key = some (n == q) := by rw [hq]; simp [keyEq]
    have e1 : keyIs n e = (n == q) := by unfold keyIs; rw [hq]
    by_cases c : n = q
    · subst c
      refine .inr ⟨0, e.val, ?_, ?_, fun v' => ⟨fun x hx => ?_, fun m => ?_⟩⟩
      · rw [lkE, e1, beq_self_eq_true, cond_true]
      · rw [findA, e0, beq_self_eq_true]; rfl
      · have hx : x ∈ ({ e with key := .int kk n, val := v' } : MapEntry) :: es := hx
        rcases List.mem_cons.1 hx with rfl | h
        · exact ⟨n, rfl⟩
        · exact hk' x h
      · show lkE m (({ e with key := .int kk n, val := v' } : MapEntry) :: es) = _
        rw [lkE, lkE]
        have f1 : keyIs m { e with key := .int kk n, val := v' } = (m == n) := rfl
        have f2 : keyIs m e = (m == n) := by unfold keyIs; rw [hq]
        rw [f1, f2]
        by_cases d : m = n
        · subst d; rw [beq_self_eq_true, if_pos rfl]; rfl
        · rw [beq_eq_false_iff_ne.2 d, if_neg d]; rfl
    · have c' : (n == q) = false := beq_eq_false_iff_ne.2 c
      have g1 : lkE n (e :: es) = lkE n es := by rw [lkE, e1, c']; rfl
      have g2 : findA (.int kk n) (e :: es) i = findA (.int kk n) es (i + 1) := by rw [findA, e0, c']
      rcases findA_lk n es (i + 1) hk' with ⟨h1, h2⟩ | ⟨j, v, h1, h2, h3⟩
      · exact .inl ⟨g1.trans h1, g2.trans h2⟩
      · refine .inr ⟨j + 1, v, g1.trans h1, g2.trans (by rw [h2]; congr 3; omega), fun v' => ⟨fun x hx => ?_, fun m => ?_⟩⟩
        · have hx : x ∈ e :: es.modify j (fun e => { e with key := .int kk n, val := v' }) := hx
          rcases List.mem_cons.1 hx with rfl | h
          · exact ⟨q, hq⟩
          · exact (h3 v').1 x h
        · show lkE m (e :: es.modify j (fun e => { e with key := .int kk n, val := v' })) = _
          rw [lkE, (h3 v').2 m, lkE]
          have f2 : keyIs m e = (m == q) := by unfold keyIs; rw [hq]
          rw [f2]
          by_cases d : m = n
          · subst d; rw [c', if_pos rfl, if_pos rfl]; rfl
          · rw [if_neg d, if_neg d]
theorem lkE_snoc {kk : IntKind} (n : Int) (v : Value) (c : Nat) : ∀ (es : List MapEntry) (m : Int), lkE n es = none → lkE m (es ++ [⟨.int kk n, v, c⟩]) = if m = n then some v else lkE m es
  | [], m, _ => by
    show cond (m == n) (some v) none = _
    by_cases d : m = n
    · subst d; rw [beq_self_eq_true, if_pos rfl]; rfl
    · rw [beq_eq_false_iff_ne.2 d, if_neg d]; rfl
  | e :: es, m, h => by
    rw [lkE] at h
    cases q : keyIs n e with
    | true => rw [q] at h; cases h
    | false =>
      rw [q, cond_false] at h
      rw [List.cons_append, lkE, lkE_snoc n v c es m h, lkE]
      by_cases d : m = n
      · subst d; rw [q, if_pos rfl, if_pos rfl]; rfl
      · rw [if_neg d, if_neg d]
/-- block b is a map of these entries -/
def MapI (kk : IntKind) (h : H) (b : Nat) (D : Int → Option Value) : Prop := ∃ es c v, h.get b = some (.map es c v) ∧ Keys kk es ∧ ∀ n, lkE n es = D n
theorem MapI.keep {kk : IntKind} {h h' : H} {b : Nat} {D : Int → Option Value} (k : h'.get b = h.get b) (r : MapI kk h b D) : MapI kk h' b D := by
  obtain ⟨es, c, v, h1, h2⟩ := r
  exact ⟨es, c, v, k.trans h1, h2⟩
theorem MapI.lt {kk : IntKind} {h : H} (w : WF h) {b : Nat} {D : Int → Option Value} (r : MapI kk h b D) : b < h.next := by
  obtain ⟨es, c, v, h1, h2⟩ := r
  rcases Nat.lt_or_ge b h.next with q | q
  · exact q
  · rw [w.dom b q] at h1; cases h1
theorem newMap_ok (kk : IntKind) {h : H} (w : WF h) : Ch (fun _ => False) h (h.new (.map [] 0 h.clock)) ∧ (h.new (.map [] 0 h.clock)).next = h.next + 1 ∧ MapI kk (h.new (.map [] 0 h.clock)) h.next fun _ => none := by
  refine ⟨⟨w.new (Nat.le_refl _), Nat.le_succ _, fun b hb _ => by rw [H.get_new, if_neg (by omega)]⟩, rfl, [], 0, h.clock, by rw [H.get_new, if_pos rfl], fun e he => (by cases he), fun n => rfl⟩
theorem mput_ok {kk : IntKind} {h : H} (w : WF h) {b : Nat} {D : Int → Option Value} (r : MapI kk h b D) (n : Int) (v : Value) :
    ∃ h', mput (some b) (.int kk n) v h = some (undef, h') ∧ Ch (fun c => c = b) h h' ∧ h'.next = h.next ∧ MapI kk h' b fun m => if m = n then some v else D m := by
  have hb := r.lt w
  obtain ⟨es, c, ver, h1, h2, h3⟩ := r
  rcases findA_lk n es 0 h2 with ⟨g1, g2⟩ | ⟨j, v0, g1, g2, g3⟩
  · refine ⟨h.put b (.map (es ++ [⟨.int kk n, v, c⟩]) (c + 1) h.clock), ?_, ⟨w.put hb rfl, Nat.le_refl _, fun x hx hn => by rw [H.get_put, if_neg hn]⟩, rfl, _, _, _, by rw [H.get_put, if_pos rfl], fun e he => ?_, fun m => ?_⟩
    · simp only [mput, mputH, h1, g2, unit]
    · rcases List.mem_append.1 he with q | q
      · exact h2 e q
      · rw [List.mem_singleton.1 q]; exact ⟨n, rfl⟩
    · rw [lkE_snoc n v c es m g1, h3]
  · refine ⟨h.put b (.map (es.modify j fun e => { e with key := .int kk n, val := v }) c h.clock), ?_, ⟨w.put hb rfl, Nat.le_refl _, fun x hx hn => by rw [H.get_put, if_neg hn]⟩, rfl, _, _, _, by rw [H.get_put, if_pos rfl], (g3 v).1, fun m => ?_⟩
    · simp only [mput, mputH, h1, g2, unit, Nat.zero_add]
    · rw [(g3 v).2 m, h3]
theorem mlook_ok {kk : IntKind} {h : H} {b : Nat} {D : Int → Option Value} (r : MapI kk h b D) (z : Value) (n : Int) : mlook z h (some b) (.int kk n) = some ((D n).getD z) := by
  obtain ⟨es, c, ver, h1, h2, h3⟩ := r
  rcases findA_lk n es 0 h2 with ⟨g1, g2⟩ | ⟨j, v0, g1, g2, g3⟩
  · simp only [mlook, h1, g2]; rw [← h3, g1]; rfl
  · simp only [mlook, h1, g2]; rw [← h3, g1]; rfl
theorem mlook2_ok {kk : IntKind} {h : H} {b : Nat} {D : Int → Option Value} (r : MapI kk h b D) (z : Value) (n : Int) : mlook2 z h (some b) (.int kk n) = some (.tuple #[(D n).getD z, .bool (D n).isSome]) := by
  obtain ⟨es, c, ver, h1, h2, h3⟩ := r
  rcases findA_lk n es 0 h2 with ⟨g1, g2⟩ | ⟨j, v0, g1, g2, g3⟩
  · simp only [mlook2, h1, g2]; rw [← h3, g1]; rfl
  · simp only [mlook2, h1, g2]; rw [← h3, g1]; rfl
/-- an argument of one-cell elements -/
theorem RSl.one {α : Type} {R : H → α → List Value → Prop} {f : α → Value} (hR : ∀ h x l, R h x l → l = [f x]) {h : H} (w : WF h) {xs : List α} {vs : List Value} (r : RSl 1 R h xs vs) : ∃ s : Sl, vs = [s.v] ∧ SlR 1 h s (xs.map f) ∧ s.n = xs.length ∧ ∀ b, SlB s b → b < h.next := by
  obtain ⟨s, r1, r2, r3⟩ := r
  refine ⟨s, r1, ?_, r2, ?_⟩
  rotate_left
  · rintro b ⟨o, hb⟩
    rcases Nat.lt_or_ge b h.next with q | q
    · exact q
    · rcases r3 with ⟨_, rfl | rfl⟩ | ⟨_, b', o', r4, _, ls, _, _, _, r9⟩
      · cases hb
      · cases hb
      · rw [r4] at hb; cases hb; rw [w.dom b q] at r9; cases r9
  rcases r3 with ⟨rfl, r3⟩ | ⟨r3, b, o, r4, r5, ls, r6, r7, r8, r9⟩
  · exact .inl ⟨rfl, r3⟩
  · have hf : ls.flatten = xs.map f := by
      apply List.ext_getElem?
      intro i
      have hlen : ls.flatten.length = xs.length := by rw [flatten_len ls r7, r6, Nat.mul_one]
      by_cases c : i < xs.length
      · rw [flatten_get ls r7 i (by omega), Nat.div_one, Nat.mod_one, List.getElem?_map]
        have e1 := List.getElem?_eq_getElem c
        have e2 := List.getElem?_eq_getElem (show i < ls.length by omega)
        have := hR _ _ _ (r8 i _ _ e1 e2)
        rw [e1, e2, this]; rfl
      · rw [List.getElem?_eq_none (by omega), List.getElem?_eq_none (by simp; omega)]
    have hl : (xs.map f).length = xs.length := List.length_map _
    refine .inr ⟨b, o, r4, by rw [hl, r2, Nat.mul_one], ?_, .inr r5⟩
    unfold H.gets
    rw [r9, hf]
    show roGets o (xs.map f) o (s.n * 1) = _
    unfold roGets
    rw [cond_eta _ _ _ (by simp [r2]), Nat.sub_self, List.drop_zero, List.take_of_length_le (by rw [hl, r2]; omega)]
/-- a number as a byte -/
def u8 (n : Int) : UInt8 := UInt8.ofNat (n % 256).toNat
theorem wrap_u8 (n : Int) : wrapA .u8 n = Int.ofNat (u8 n).toNat := by
  rw [wrapA_eq]
  have h1 := Int.emod_nonneg n (show (256 : Int) ≠ 0 by decide)
  have h2 := Int.emod_lt_of_pos n (show (0 : Int) < 256 by decide)
  have e1 : IntKind.u8.wrap n = n % 256 := by rfl
  rw [e1]
  unfold u8
  simp
  omega
theorem byt_get (x : List UInt8) (i : Nat) : (byt x)[i]? = (x[i]?).map fun c => .int .u8 (.ofNat c.toNat) := by unfold byt; rw [List.getElem?_map]
def ivs (l : List Int) : List Value := l.map fun n => .int .i64 n
theorem ivs_get (l : List Int) (i : Nat) : (ivs l)[i]? = (l[i]?).map fun n => .int .i64 n := by unfold ivs; rw [List.getElem?_map]
theorem ivs_len (l : List Int) : (ivs l).length = l.length := List.length_map _
/-- a slice as a value -/
def slv (s : Sl) : Value := .slice s.a s.n s.c
theorem asS_slv (s : Sl) : asS (some (slv s)) = some s := rfl
/-- bytes put over bytes -/
def ovb (l : List UInt8) (o : Nat) (vs : List UInt8) : List UInt8 := l.take o ++ vs ++ l.drop (o + vs.length)
theorem over_byt (l : List UInt8) (o : Nat) (vs : List UInt8) : over (byt l) o (byt vs) = byt (ovb l o vs) := by
  unfold over ovb
  rw [byt_len]
  unfold byt
  simp only [List.map_append, List.map_take, List.map_drop]
theorem ovb_len {l : List UInt8} {o : Nat} {vs : List UInt8} (hf : o + vs.length ≤ l.length) : (ovb l o vs).length = l.length := by unfold ovb; simp; omega
theorem ovb_get {l : List UInt8} {o : Nat} {vs : List UInt8} (hf : o + vs.length ≤ l.length) (i : Nat) : (ovb l o vs)[i]? = if o ≤ i ∧ i < o + vs.length then vs[i - o]? else l[i]? := by
  unfold ovb
  by_cases h1 : i < o
  · rw [if_neg (by omega), List.append_assoc, List.getElem?_append_left (by simp; omega), List.getElem?_take, if_pos h1]
  · by_cases h2 : i < o + vs.length
    · rw [if_pos ⟨by omega, h2⟩, List.getElem?_append_left (by simp; omega), List.getElem?_append_right (by simp; omega)]
      congr 1; simp; omega
    · rw [if_neg (by omega), List.getElem?_append_right (by simp; omega), List.getElem?_drop]
      congr 1; simp; omega
theorem mkz_ok {h : H} {e sz by_ : Nat} (z : Value) {n : Nat} (hsz : sz = 1) (h1 : by_ * n ≤ 140737488355328) (h2 : n ≤ 140737488355328) : mkz e sz by_ [z] (Int.ofNat n) (Int.ofNat n) h = some (.slice (some ⟨h.next, 0, none⟩) n n, newZ h e sz [z] n) := by
  subst hsz
  have g : (Nat.ble n n && Nat.ble (by_ * n) 140737488355328 && Nat.ble n 140737488355328 && Nat.blt 0 1 && Nat.beq [z].length 1) = true := by
    simp only [Bool.and_eq_true, Nat.ble_eq]
    exact ⟨⟨⟨⟨Nat.le_refl _, h1⟩, h2⟩, rfl⟩, rfl⟩
  show nv h (cond _ _ _) = _
  rw [cond_eta _ _ _ g]; rfl
/-- an argument: a slice of elements of several cells -/
theorem RSl.many {α : Type} {es : Nat} {R : H → α → List Value → Prop} {h : H} (w : WF h) {xs : List α} {vs : List Value} (hes : 0 < es) (r : RSl es R h xs vs) :
    ∃ (s : Sl) (ls : List (List Value)), vs = [s.v] ∧ s.n = xs.length ∧ SlR es h s ls.flatten ∧ ls.length = xs.length ∧ (∀ l ∈ ls, l.length = es) ∧ (∀ (i : Nat) (x : α) (l : List Value), xs[i]? = some x → ls[i]? = some l → R h x l) ∧ ∀ b, SlB s b → b < h.next := by
  obtain ⟨s, r1, r2, r3⟩ := r
  rcases r3 with ⟨rfl, r3⟩ | ⟨r3, b, o, r4, r5, ls, r6, r7, r8, r9⟩
  · refine ⟨s, [], r1, r2, .inl ⟨rfl, r3⟩, rfl, fun l hl => (by cases hl), fun i x l h1 => (by simp at h1), ?_⟩
    rintro b ⟨o, hb⟩
    rcases r3 with rfl | rfl <;> cases hb
  · have hlen : ls.flatten.length = xs.length * es := by rw [flatten_len ls r7, r6]
    refine ⟨s, ls, r1, r2, .inr ⟨b, o, r4, by rw [hlen, r2], ?_, .inr r5⟩, r6, r7, r8, ?_⟩
    · unfold H.gets
      rw [r9]
      show roGets o ls.flatten o (s.n * es) = _
      unfold roGets
      rw [cond_eta _ _ _ (by simp [r2, hlen]), Nat.sub_self, List.drop_zero, List.take_of_length_le (by rw [hlen, r2]; exact Nat.le_refl _)]
    · rintro c ⟨o', hb⟩
      rw [r4] at hb; cases hb
      rcases Nat.lt_or_ge b h.next with q | q
      · exact q
      · rw [w.dom b q] at r9; cases r9
/-- .. a cell of an element -/
theorem SlR.cellOf {es : Nat} {h : H} {s : Sl} {ls : List (List Value)} (r : SlR es h s ls.flatten) (hes : 0 < es) (hl : ∀ l ∈ ls, l.length = es) {i j : Nat} {l : List Value} (hi : ls[i]? = some l) (hj : j < es) (hn : i < s.n) :
    ∃ b o, ixs es s.a s.n (Int.ofNat i) = some (.pointer (some ⟨b, o, none⟩)) ∧ ldc h (some ⟨b, o + j, none⟩) = l[j]? := by
  obtain ⟨b, o, h1, h2⟩ := r.elem hn
  refine ⟨b, o, h1, ?_⟩
  have := gets_cell h2 hj
  show h.cell b (o + j) = _
  rw [this, List.getElem?_take, if_pos hj, List.getElem?_drop]
  have hil : i < ls.length := by
    rcases Nat.lt_or_ge i ls.length with q | q
    · exact q
    · rw [List.getElem?_eq_none q] at hi; cases hi
  have hk : i * es + j < ls.flatten.length := by
    rw [flatten_len ls hl]
    have : (i + 1) * es ≤ ls.length * es := Nat.mul_le_mul_right _ hil
    rw [Nat.add_mul, Nat.one_mul] at this; omega
  rw [flatten_get ls hl _ hk, Nat.mul_comm, Nat.mul_add_div hes, Nat.div_eq_of_lt hj, Nat.add_zero, Nat.mul_add_mod, Nat.mod_eq_of_lt hj, hi]; rfl
theorem sameVer_of {h h' : H} {b : Nat} (e : h'.get b = h.get b) : sameVer h h' b = true := by
  unfold sameVer
  rw [e]
  cases h.get b with
  | none => rfl
  | some x => exact Nat.beq_refl _
/-- a byte already -/
theorem wrap_u8_in {n : Int} (h0 : 0 ≤ n) (h1 : n < 256) : wrapA .u8 n = n := by
  rw [wrap_u8]
  unfold u8
  rw [Int.emod_eq_of_lt h0 h1]
  simp
  omega
end Go.Proofs.Ytnjeafdbifcfhaa.Den
