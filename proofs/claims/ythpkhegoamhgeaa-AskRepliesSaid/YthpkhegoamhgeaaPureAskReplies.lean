/- The pure statement of AskReplies: what the printed functions answer. No condition beyond its own. -/
import Derived.Test.YthpkhegoamhgeaaPAskRepliesx5
import Derived.Test.YthpkhegoamhgeaaKit
namespace Go.Proofs.Ythpkhegoamhgeaa.Pure
open Go.RowKit Go.Proofs.Ythpkhegoamhgeaa.PAskReplies Go.Proofs.YthpkhegoamhgeaaW.PrintWords Go.Proofs.YthpkhegoamhgeaaW.PrintLast Go.Proofs.YthpkhegoamhgeaaW.PrintMore Go.Proofs.Ythpkhegoamhgeaa.Kit
set_option linter.unusedVariables false
set_option linter.unusedSimpArgs false

theorem pick_f (n m : Int) (h0 : 0 < m) (h1 : m ≤ 4611686018427387904) : corbelhand_Pick.f n m = some (n % m) := by
  unfold corbelhand_Pick.f
  rw [if_neg (by omega)]
  have e := Int.tmod_eq_emod (a := n) (b := m)
  have b1 := Int.emod_nonneg n (show m ≠ 0 by omega)
  have b2 := Int.emod_lt_of_pos n h0
  have hm : (m.natAbs : Int) = m := by omega
  by_cases hc : 0 ≤ n ∨ m ∣ n
  · rw [if_pos hc] at e
    rw [if_neg (by omega), e]; congr 1; omega
  · rw [if_neg hc, hm] at e
    have hne : n % m ≠ 0 := fun q => hc (.inr (Int.dvd_of_emod_eq_zero q))
    rw [if_pos (by omega), wrap_in (by omega) (by omega), e]; congr 1; omega
theorem pick_nn (n m : Int) (h0 : 0 < m) : 0 ≤ n % m := Int.emod_nonneg n (by omega)
theorem pick_lt (n m : Int) (h0 : 0 < m) : n % m < m := Int.emod_lt_of_pos n h0

/-! bytes told by a number -/
theorem hb_go (n : Int) (hn : n ≤ 281474976710656) : ∀ (d i : Nat) (acc : List Int) (x : Int), (i : Int) + d = n → (acc.length : Int) = n → isBytes acc → ∃ l, Ev (fun k => corbelhand_Bytes.l0 k n acc x (i : Int)) l ∧ (l.length : Int) = n ∧ isBytes l
  | 0, i, acc, x, h, hl, hb => ⟨acc, Ev.step (fun _ => corbelhand_Bytes.l0.eq_2 ..) (ev_neg (by omega) (Ev.now _)), hl, hb⟩
  | d + 1, i, acc, x, h, hl, hb => by
    obtain ⟨l, q, e⟩ := hb_go n hn d (i + 1) (acc.set i (((IntKind.u64.wrap ((IntKind.u64.wrap (x * 6364136223846793005)) + 1442695040888963407)) / 72057594037927936) % 256)) (IntKind.u64.wrap ((IntKind.u64.wrap (x * 6364136223846793005)) + 1442695040888963407)) (by omega) (by rw [List.length_set]; exact hl) (bytes_set _ _ hb (by omega) (by omega))
    refine ⟨l, Ev.step (fun _ => corbelhand_Bytes.l0.eq_2 ..) (ev_pos (by omega) (ev_pos (by omega) (ev_pos (by omega) ?_))), e⟩
    rw [show wrap64 ((i : Int) + 1) = ((i + 1 : Nat) : Int) by unfold wrap64; omega]
    exact q
theorem hb_f (s n : Int) (h0 : 0 ≤ n) (h1 : n ≤ 281474976710656) : ∃ l, Ev (fun k => corbelhand_Bytes.f k s n) l ∧ (l.length : Int) = n ∧ isBytes l := by
  unfold corbelhand_Bytes.f
  by_cases h6 : s % 7 = 6
  · exact ⟨_, ev_pos h0 (ev_pos (by omega) (ev_bind0 (ev_bind1 (pick_f s 7 (by omega) (by omega)) (ev_pos h6 (Ev.now _))))), by simp; omega, bytes_rep _ _ (by omega) (by omega)⟩
  · obtain ⟨l, q, e⟩ := hb_go n h1 n.toNat 0 (List.replicate n.toNat 0) (IntKind.u64.wrap ((IntKind.u64.wrap ((IntKind.u64.wrap (s)) * 2654435761)) + 12345)) (by omega) (by simp; omega) (bytes_rep _ _ (by omega) (by omega))
    exact ⟨l, ev_pos h0 (ev_pos (by omega) (ev_bind0 (ev_bind1 (pick_f s 7 (by omega) (by omega)) (ev_neg h6 q)))), e⟩

/-! numbers as bytes, the highest first -/
def be (n : Int) : Nat → List Int
  | 0 => []
  | m + 1 => (n / 256 ^ m) % 256 :: be n m
theorem be_len (n : Int) : ∀ m, (be n m).length = m
  | 0 => rfl
  | m + 1 => by rw [be, List.length_cons, be_len n m]
theorem be_bytes (n : Int) : ∀ m, isBytes (be n m)
  | 0 => bytes_nil
  | m + 1 => bytes_cons (by omega) (by omega) (be_bytes n m)
theorem be_rd (n : Int) : ∀ (m i : Nat), i < m → rd (be n m) (i : Int) = (n / 256 ^ (m - 1 - i)) % 256
  | m + 1, 0, _ => by simp [be, rd]
  | m + 1, i + 1, h => by
    have e : rd (be n (m + 1)) ((i + 1 : Nat) : Int) = rd (be n m) (i : Int) := by
      rw [rd_nat _ _ (by rw [be_len]; omega), rd_nat _ _ (by rw [be_len]; omega)]; rfl
    rw [e, be_rd n m i (by omega), show m + 1 - 1 - (i + 1) = m - 1 - i by omega]
theorem pow8 : ∀ m : Nat, (2 : Int) ^ (8 * m) = 256 ^ m
  | 0 => rfl
  | m + 1 => by rw [show 8 * (m + 1) = 8 * m + 8 by omega, Int.pow_add, pow8 m, Int.pow_succ]; rfl
theorem shr8 (n s : Int) (m : Nat) (h : m ≤ 8) (hs : s = 8 * (m : Int)) : shr .u64 n s = n / 256 ^ m := by
  subst hs
  unfold shr
  rw [show (8 * (m : Int)).toNat = 8 * m by omega, Nat.min_eq_left (show 8 * m ≤ IntKind.u64.bits by show 8 * m ≤ 64; omega), pow8]
theorem bytes_go (n : Int) : ∀ (m : Nat) (acc : List Int) (x : Int), m ≤ 8 → x = (m : Int) - 1 → acc.length + m < 1000 → Ev (fun k => ask_bytes.l0 k n acc x) (acc ++ be n m)
  | 0, acc, x, h, hx, hl => Ev.step (fun _ => ask_bytes.l0.eq_2 ..) (ev_neg (by omega) (ev_some (by simp [be])))
  | m + 1, acc, x, h, hx, hl => by
    obtain rfl : x = (m : Int) := by omega
    refine Ev.step (fun _ => ask_bytes.l0.eq_2 ..) (ev_pos (by omega) (ev_pos (by unfold wrap64; omega) (ev_pos (by omega) ?_)))
    rw [shr8 n _ m (by omega) (by unfold wrap64; omega)]
    exact ev_eq (bytes_go n m _ _ (by omega) (by unfold wrap64; omega) (by simp; omega)) (by simp [be])
theorem bytes_f (n : Int) (m : Nat) (h : m ≤ 8) : Ev (fun k => ask_bytes.f k n (m : Int)) (be n m) :=
  bytes_go n m [] _ h (by unfold wrap64; omega) (by simp; omega)
theorem concat_go : ∀ (rest pre : List (List Int)) (acc : List Int), (acc ++ rest.flatten).length < 140737488355328 → (pre ++ rest).length < 1000 → Ev (fun k => slices_Concat_byte_byte.l0 k acc (pre ++ rest) ((pre ++ rest).length : Int) (pre.length : Int)) (acc ++ rest.flatten)
  | [], pre, acc, h, hl => Ev.step (fun _ => slices_Concat_byte_byte.l0.eq_2 ..) (ev_neg (by simp) (ev_some (by simp)))
  | x :: rest, pre, acc, h, hl => by
    have e : rd_L1 (pre ++ x :: rest) (pre.length : Int) = x := by simp [rd_L1]
    have l1 : (pre ++ x :: rest).length = pre.length + (rest.length + 1) := by simp
    have l2 : (acc ++ (x :: rest).flatten).length = acc.length + (x.length + rest.flatten.length) := by simp
    refine Ev.step (fun _ => slices_Concat_byte_byte.l0.eq_2 ..) (ev_pos (by omega) (ev_pos (by omega) (ev_pos (by omega) (ev_pos (by rw [e]; omega) ?_))))
    rw [e]
    have q := concat_go rest (pre ++ [x]) (acc ++ x) (by simp at h ⊢; omega) (by simp at hl ⊢; omega)
    rw [List.append_assoc, List.singleton_append, List.append_assoc] at q
    refine ev_eq (Ev.congr (fun k => ?_) q) (by simp)
    rw [show wrap64 ((pre.length : Int) + 1) = ((pre ++ [x]).length : Int) by simp; unfold wrap64; omega]
theorem concat_f (ls : List (List Int)) (h : ls.flatten.length < 140737488355328) (hl : ls.length < 1000) : Ev (fun k => slices_Concat_byte_byte.f k ls) ls.flatten :=
  concat_go ls [] [] (by simpa using h) (by simpa using hl)
def num (l : List Int) : Int := l.foldl (fun a c => a * 256 + c) 0
theorem wrap_u64_in (n : Int) (h0 : 0 ≤ n) (h1 : n < 18446744073709551616) : IntKind.u64.wrap n = n := by
  rw [IntKind.wrap_u64]; omega
theorem or8u (x y : Int) (h0 : 0 ≤ x) (h1 : x % 256 = 0) (h2 : x < 18446744073709551616) (h3 : 0 ≤ y) (h4 : y < 256) : Go.bits .or .u64 x y = x + y :=
  Go.bits_join .u64 64 (by decide) (fun n a b => wrap_u64_in n a (by simpa using b)) 8 x y h0 (by simpa using h1) (by simpa using h2) h3 (by simpa using h4) (by simp; omega)
theorem number_go : ∀ (rest pre : List Int) (acc : Int), 0 ≤ acc → (acc + 1) * 256 ^ rest.length ≤ 18446744073709551616 → isBytes rest → (pre ++ rest).length < 1000 → Ev (fun k => ask_number.l0 k acc (pre ++ rest) ((pre ++ rest).length : Int) (pre.length : Int)) (rest.foldl (fun a c => a * 256 + c) acc)
  | [], pre, acc, h0, h, hb, hl => Ev.step (fun _ => ask_number.l0.eq_2 ..) (ev_neg (by simp) (ev_some (by simp)))
  | x :: rest, pre, acc, h0, h, hb, hl => by
    have e : rd (pre ++ x :: rest) (pre.length : Int) = x := by simp [rd]
    have l1 : (pre ++ x :: rest).length = pre.length + (rest.length + 1) := by simp
    have bx := hb x (by simp)
    rw [List.length_cons, Int.pow_succ] at h
    have hp : (1 : Int) ≤ 256 ^ rest.length := by have := Int.pow_pos (n := 256) (m := rest.length) (by decide); omega
    have h1 : (acc + 1) * 256 * 256 ^ rest.length ≤ 18446744073709551616 := by rw [Int.mul_assoc, Int.mul_comm 256]; exact h
    have h2 : (acc * 256 + x + 1) * 256 ^ rest.length ≤ 18446744073709551616 := Int.le_trans (Int.mul_le_mul_of_nonneg_right (by omega) (by omega)) h1
    have h3 : (acc + 1) * 256 * 1 ≤ (acc + 1) * 256 * 256 ^ rest.length := Int.mul_le_mul_of_nonneg_left hp (by omega)
    refine Ev.step (fun _ => ask_number.l0.eq_2 ..) (ev_pos (by omega) (ev_pos (by omega) (ev_pos (by omega) ?_)))
    rw [e, wrap_u64_in (acc * 256) (by omega) (by omega), wrap_u64_in x (by omega) (by omega), or8u _ _ (by omega) (by omega) (by omega) bx.1 (by omega)]
    have q := number_go rest (pre ++ [x]) (acc * 256 + x) (by omega) h2 (fun y hy => hb y (by simp [hy])) (by simp at hl ⊢; omega)
    rw [List.append_assoc, List.singleton_append] at q
    refine ev_eq (Ev.congr (fun k => ?_) q) (by simp)
    rw [show wrap64 ((pre.length : Int) + 1) = ((pre ++ [x]).length : Int) by simp; unfold wrap64; omega]
theorem number_f (l : List Int) (hb : isBytes l) (h : l.length ≤ 8) : Ev (fun k => ask_number.f k l) (num l) := by
  refine number_go l [] 0 (by omega) ?_ hb (by simp; omega)
  have : l.length = 0 ∨ l.length = 1 ∨ l.length = 2 ∨ l.length = 3 ∨ l.length = 4 ∨ l.length = 5 ∨ l.length = 6 ∨ l.length = 7 ∨ l.length = 8 := by omega
  rcases this with e | e | e | e | e | e | e | e | e <;> rw [e] <;> decide
theorem known_f : Ev (fun k => corbellaw24_known.f k) true := Ev.of (fun k => corbellaw24_known.mono k) (k := 200) (by kernel_rfl)
/-! replies, requests -/
theorem reply_f (c n : Int) (d : List Int) (h : d.length < 140737488355000) : Ev (fun k => ask_Reply.f k c n d) (be 1732535960 4 ++ (be (IntKind.u64.wrap c) 4 ++ (be n 8 ++ if c = 0 then d else []))) := by
  unfold ask_Reply.f
  refine Ev.bind (bytes_f _ 4 (by omega)) (Ev.bind (bytes_f _ 4 (by omega)) (Ev.bind (bytes_f _ 8 (by omega)) ?_))
  refine ev_eq (concat_f _ ?_ (by simp)) (by simp)
  simp only [List.flatten_cons, List.flatten_nil, List.length_append, be_len, List.length_nil]
  split <;> simp <;> omega
def lay (fl ty ck off len : Int) (d : List Int) : List Int := be 627086611 4 ++ (be (IntKind.u64.wrap fl) 2 ++ (be (IntKind.u64.wrap ty) 2 ++ (be ck 8 ++ (be off 8 ++ (be (IntKind.u64.wrap len) 4 ++ d)))))
theorem lay_len (fl ty ck off len : Int) (d : List Int) : (lay fl ty ck off len d).length = 28 + d.length := by
  simp only [lay, List.length_append, be_len]; omega
theorem lay_f (fl ty ck off len : Int) (d : List Int) (h : d.length < 140737488355000) : Ev (fun k => ask_Lay.f k fl ty ck off len d) (lay fl ty ck off len d) := by
  unfold ask_Lay.f
  refine Ev.bind (bytes_f _ 4 (by omega)) (Ev.bind (bytes_f _ 2 (by omega)) (Ev.bind (bytes_f _ 2 (by omega)) (Ev.bind (bytes_f _ 8 (by omega)) (Ev.bind (bytes_f _ 8 (by omega)) (Ev.bind (bytes_f _ 4 (by omega)) (Ev.bind (concat_f _ ?_ (by simp)) (ev_some (by simp [lay]))))))))
  simp only [List.flatten_cons, List.flatten_nil, List.length_append, be_len, List.length_nil]
  omega
theorem next_bad (l : List Int) (hb : isBytes l) (h4 : 4 ≤ l.length) (hn : num (l.take 4) ≠ 627086611) : Ev (fun k => ask_Next.f k l) (0, 0, 0, 0, 0, [], 0, 2) := by
  unfold ask_Next.f
  refine ev_pos (by omega) (ev_pos (by omega) (Ev.bind (number_f _ (bytes_take 4 hb) (by rw [List.length_take]; omega)) ?_))
  refine Ev.step (fun _ => ask_Next.j0.eq_2 ..) (ev_pos (by simpa using hn) (ev_some rfl))
def okReq (ck : Int) (q : Int × Int × Int × Int × Int × List Int) : Prop := q.2.2.1 = ck ∧ 0 ≤ q.2.2.2.1 ∧ q.2.2.2.1 < 18446744073709551616 ∧ q.2.2.2.2.2.length ≤ 300 ∧ isBytes q.2.2.2.2.2
theorem mx_bd (n : Int) : 0 ≤ mx 0 (mn 300 n) ∧ mx 0 (mn 300 n) ≤ 300 := by
  unfold mx mn; split <;> split <;> omega
theorem of_tail (s fl ty ck off len : Int) (h0 : 0 ≤ off) (h1 : off < 18446744073709551616) : ∃ q, Ev (fun k => if ty = 1 then ((corbelhand_Bytes.f k s (mx 0 (mn 300 len))).bind fun t => (some (fl, ty, ck, off, len, t))) else (some (fl, ty, ck, off, len, ([] : List Int)))) q ∧ okReq ck q := by
  by_cases h : ty = 1
  · obtain ⟨l, q, e1, e2⟩ := hb_f s _ (mx_bd len).1 (Int.le_trans (mx_bd len).2 (by decide))
    have := (mx_bd len).2
    exact ⟨_, ev_pos h (Ev.bind q (Ev.now _)), rfl, h0, h1, by show l.length ≤ 300; omega, e2⟩
  · exact ⟨_, ev_neg h (Ev.now _), rfl, h0, h1, by simp, bytes_nil⟩
theorem of_j (x0 x1 x2 x3 x4 x5 : Int) (x6 : List Int) (fl ty ck off len : Int) (h0 : 0 ≤ off) (h1 : off < 18446744073709551616) (h2 : 0 ≤ x5) (h3 : x5 < 18446744073709551616) : ∃ q, Ev (fun k => corbellaw24_of.j0 k x0 x1 x2 x3 x4 x5 x6 fl ty ck off len) q ∧ okReq ck q := by
  by_cases c1 : x3 % 20 = 14
  · obtain ⟨q, a, b⟩ := of_tail x1 fl x0 ck off len h0 h1
    exact ⟨q, Ev.step (fun _ => corbellaw24_of.j0.eq_2 ..) (ev_bind1 (pick_f x3 20 (by omega) (by omega)) (ev_pos c1 a)), b⟩
  by_cases c2 : x3 % 20 = 15
  · obtain ⟨q, a, b⟩ := of_tail x1 x1 ty ck off len h0 h1
    exact ⟨q, Ev.step (fun _ => corbellaw24_of.j0.eq_2 ..) (ev_bind1 (pick_f x3 20 (by omega) (by omega)) (ev_neg c1 (ev_pos c2 a))), b⟩
  by_cases c3 : x3 % 20 = 16
  · obtain ⟨q, a, b⟩ := of_tail x1 fl ty ck x5 len h2 h3
    exact ⟨q, Ev.step (fun _ => corbellaw24_of.j0.eq_2 ..) (ev_bind1 (pick_f x3 20 (by omega) (by omega)) (ev_neg c1 (ev_neg c2 (ev_pos c3 a)))), b⟩
  by_cases c4 : x3 % 20 = 17
  · obtain ⟨q, a, b⟩ := of_tail x1 fl ty ck off x2 h0 h1
    exact ⟨q, Ev.step (fun _ => corbellaw24_of.j0.eq_2 ..) (ev_bind1 (pick_f x3 20 (by omega) (by omega)) (ev_neg c1 (ev_neg c2 (ev_neg c3 (ev_pos c4 a))))), b⟩
  by_cases c5 : x3 % 20 = 18
  · obtain ⟨q, a, b⟩ := of_tail x1 fl ty ck off (wrap64 ((wrap64 (32768 + x2 % 40)) - 20)) h0 h1
    exact ⟨q, Ev.step (fun _ => corbellaw24_of.j0.eq_2 ..) (ev_bind1 (pick_f x3 20 (by omega) (by omega)) (ev_neg c1 (ev_neg c2 (ev_neg c3 (ev_neg c4 (ev_pos c5 (ev_bind1 (pick_f x2 40 (by omega) (by omega)) a))))))), b⟩
  · obtain ⟨q, a, b⟩ := of_tail x1 fl ty ck off len h0 h1
    exact ⟨q, Ev.step (fun _ => corbellaw24_of.j0.eq_2 ..) (ev_bind1 (pick_f x3 20 (by omega) (by omega)) (ev_neg c1 (ev_neg c2 (ev_neg c3 (ev_neg c4 (ev_neg c5 a)))))), b⟩
theorem wrap_u64_bd (n : Int) : 0 ≤ IntKind.u64.wrap n ∧ IntKind.u64.wrap n < 18446744073709551616 := by
  rw [IntKind.wrap_u64]; omega
theorem of_f (x0 x1 x2 x3 x4 x5 : Int) (x6 : List Int) (h2 : 0 ≤ x5) (h3 : x5 < 18446744073709551616) : ∃ q, Ev (fun k => corbellaw24_of.f k x0 x1 x2 x3 x4 x5 x6) q ∧ okReq x4 q := by
  by_cases c : Int.tmod x3 3 > 0
  · obtain ⟨q, a, b⟩ := of_j x0 x1 x2 x3 x4 x5 x6 (x1 % 3) (x0 % 8) x4 (IntKind.u64.wrap ((IntKind.u64.wrap (Int.tdiv (Int.tmod x5 4096) 16)) * 16)) (wrap64 ((wrap64 (Int.tdiv (x2 % 200) 16)) * 16)) (wrap_u64_bd _).1 (wrap_u64_bd _).2 h2 h3
    exact ⟨q, ev_bind1 (pick_f x0 8 (by omega) (by omega)) (ev_bind1 (pick_f x1 3 (by omega) (by omega)) (ev_bind1 (pick_f x2 200 (by omega) (by omega)) (ev_pos c a))), b⟩
  · obtain ⟨q, a, b⟩ := of_j x0 x1 x2 x3 x4 x5 x6 (x1 % 3) (x0 % 8) x4 (Int.tmod x5 4096) (x2 % 200) (by rw [tmod_nn h2]; omega) (by rw [tmod_nn h2]; omega) h2 h3
    exact ⟨q, ev_bind1 (pick_f x0 8 (by omega) (by omega)) (ev_bind1 (pick_f x1 3 (by omega) (by omega)) (ev_bind1 (pick_f x2 200 (by omega) (by omega)) (ev_neg c a))), b⟩

theorem wf_u64 {x : Int} (h : (Lit.int .u64 x).wf = true) : 0 ≤ x ∧ x < 18446744073709551616 := by
  simp [Lit.wf] at h
  have h1 : 0 ≤ x ∧ x ≤ 18446744073709551615 := h
  omega
/-! the reply, byte by byte -/
def rep (c n : Int) (d : List Int) : List Int := 103 :: 68 :: 102 :: 152 :: 0 :: 0 :: 0 :: c :: (be n 8 ++ d)
theorem rep_eq (c n : Int) (d : List Int) (h0 : 0 ≤ c) (h1 : c < 40) : be 1732535960 4 ++ (be (IntKind.u64.wrap c) 4 ++ (be n 8 ++ d)) = rep c n d := by
  rw [wrap_u64_in c h0 (by omega), show be 1732535960 4 = [103, 68, 102, 152] by decide]
  have e : be c 4 = [0, 0, 0, c] := by
    simp only [be]
    rw [show c / 256 ^ 3 = 0 by rw [show (256 : Int) ^ 3 = 16777216 by decide]; omega, show c / 256 ^ 2 = 0 by rw [show (256 : Int) ^ 2 = 65536 by decide]; omega, show c / 256 ^ 1 = 0 by rw [show (256 : Int) ^ 1 = 256 by decide]; omega, show c / 256 ^ 0 = c by rw [show (256 : Int) ^ 0 = 1 by decide]; omega, show c % 256 = c by omega]
    rfl
  rw [e]; rfl
theorem rep_len (c n : Int) (d : List Int) : (rep c n d).length = 16 + d.length := by
  simp only [rep, List.length_cons, List.length_append, be_len]; omega
theorem rep_bytes (c n : Int) (d : List Int) (h0 : 0 ≤ c) (h1 : c < 40) (h : isBytes d) : isBytes (rep c n d) := by
  unfold rep
  repeat first | exact bytes_app (be_bytes _ _) h | refine bytes_cons (by omega) (by omega) ?_
theorem rep_rd (c n : Int) (d : List Int) (i : Nat) (h : i < 8) : rd (rep c n d) ((8 + i : Nat) : Int) = (n / 256 ^ (7 - i)) % 256 := by
  have e : rep c n d = [103, 68, 102, 152, 0, 0, 0, c] ++ (be n 8 ++ d) := rfl
  rw [e, rd_app_r _ _ _ (by simp) (by simp [be_len]; omega), rd_app_l _ _ _ (by rw [be_len]; simp; omega), be_rd _ _ _ (by simp; omega)]
  simp
theorem rep_drop (c n : Int) (d : List Int) : (rep c n d).drop 16 = d := by
  have e : rep c n d = ([103, 68, 102, 152, 0, 0, 0, c] ++ be n 8) ++ d := by simp [rep]
  rw [e, List.drop_left' (by simp [be_len])]
theorem end_f (c n : Int) (d l2 : List Int) (x0 x1 x2 x3 x4 x5 : Int) (x6 : List Int) (h0 : 0 ≤ c) (h1 : c < 40) (hd : isBytes d) (hc : c = 0 → d = l2) (a0 : 0 ≤ x5) (a1 : x5 < 18446744073709551616) :
    Ev (fun k => (ask_Next.f k (rep c n d)).bind fun bt229 => ((corbellaw24_of.f k x0 x1 x2 x3 x4 x5 x6).bind fun bt240 => ((ask_Lay.f k bt240.1 bt240.2.1 bt240.2.2.1 bt240.2.2.2.1 bt240.2.2.2.2.1 bt240.2.2.2.2.2).bind fun t249 => (if bt229.2.2.2.2.2.2.2 = 2 then (if c = 0 then (if 16 ≤ ((rep c n d).length : Int) then (if (strOfNums ((rep c n d).drop 16)).toList = (strOfNums l2).toList then (some ((t249.length : Int) == (wrap64 (28 + (bt240.2.2.2.2.2.length : Int))))) else (some false)) else (none)) else (some ((t249.length : Int) == (wrap64 (28 + (bt240.2.2.2.2.2.length : Int)))))) else (some false))))) true := by
  obtain ⟨q, e, ok⟩ := of_f x0 x1 x2 x3 x4 x5 x6 a0 a1
  obtain ⟨k1, k2, k3, k4, k5⟩ := ok
  refine Ev.bind (next_bad _ (rep_bytes c n d h0 h1 hd) (by rw [rep_len]; omega) ?_) (Ev.bind e (Ev.bind (lay_f _ _ _ _ _ _ (by omega)) (ev_pos rfl ?_)))
  · simp [rep, num]
  have hw : ((lay q.1 q.2.1 q.2.2.1 q.2.2.2.1 q.2.2.2.2.1 q.2.2.2.2.2).length : Int) == (wrap64 (28 + (q.2.2.2.2.2.length : Int))) := by
    rw [lay_len, beq_iff_eq]; unfold wrap64; omega
  by_cases h : c = 0
  · exact ev_pos h (ev_pos (by rw [rep_len]; omega) (ev_pos (by rw [rep_drop, hc h]) (ev_some hw)))
  · exact ev_neg h (ev_some hw)
theorem loop_f (c n : Int) (d l2 : List Int) (x0 x1 x2 x3 x4 x5 : Int) (x6 : List Int) (h0 : 0 ≤ c) (h1 : c < 40) (hd : isBytes d) (hc : c = 0 → d = l2) (a0 : 0 ≤ x5) (a1 : x5 < 18446744073709551616) :
    ∀ (m i : Nat), i + m = 8 → Ev (fun k => corbellaw24_AskReplies.l0 k c n l2 (rep c n d) (i : Int) x0 x1 x2 x3 x4 x5 x6) true
  | 0, i, h => Ev.step (fun _ => corbellaw24_AskReplies.l0.eq_2 ..) (ev_neg (by omega) (end_f c n d l2 x0 x1 x2 x3 x4 x5 x6 h0 h1 hd hc a0 a1))
  | m + 1, i, h => by
    have ei : wrap64 (8 + (i : Int)) = ((8 + i : Nat) : Int) := by unfold wrap64; omega
    have es : IntKind.u64.wrap (wrap64 (56 - (wrap64 (8 * (i : Int))))) = 8 * ((7 - i : Nat) : Int) := by
      rw [show wrap64 (8 * (i : Int)) = 8 * (i : Int) from wrap_in (by omega) (by omega), wrap_in (by omega) (by omega), wrap_u64_in _ (by omega) (by omega)]; omega
    refine Ev.step (fun _ => corbellaw24_AskReplies.l0.eq_2 ..) (ev_pos (by omega) (ev_pos (by omega) (ev_pos (by rw [ei, rep_len]; omega) (ev_pos (by omega) (ev_pos ?_ ?_)))))
    · rw [ei, es, rep_rd c n d i (by omega), shr8 n _ (7 - i) (by omega) rfl]
    · rw [show wrap64 ((i : Int) + 1) = ((i + 1 : Nat) : Int) by unfold wrap64; omega]
      exact loop_f c n d l2 x0 x1 x2 x3 x4 x5 x6 h0 h1 hd hc a0 a1 m (i + 1) (by omega)
theorem j0_f (c n : Int) (d l2 : List Int) (w : Int) (x0 x1 x2 x3 x4 x5 : Int) (x6 : List Int) (h0 : 0 ≤ c) (h1 : c < 40) (hd : isBytes d) (hc : c = 0 → d = l2) (hw : w = 16 + (d.length : Int)) (a0 : 0 ≤ x5) (a1 : x5 < 18446744073709551616) :
    Ev (fun k => corbellaw24_AskReplies.j0 k c n l2 (rep c n d) w x0 x1 x2 x3 x4 x5 x6) true := by
  have hl := rep_len c n d
  refine Ev.step (fun _ => corbellaw24_AskReplies.j0.eq_2 ..) (ev_pos (by omega) (ev_pos (by omega) (ev_pos ?_ (ev_pos (by omega) (ev_pos ?_ (ev_pos (by omega) (ev_pos rfl (ev_pos (by omega) (ev_pos rfl (ev_pos (by omega) ?_))))))))))
  · show (strOfNums [103, 68, 102, 152]).toList = _
    kernel_rfl
  · show wrap64 c = c
    exact wrap_in (by omega) (by omega)
  · exact Ev.step (fun _ => corbellaw24_AskReplies.j1.eq_2 ..) (ev_neg (show ¬ ((0 : Int) != 0) = true by decide) (loop_f c n d l2 x0 x1 x2 x3 x4 x5 x6 h0 h1 hd hc a0 a1 8 0 (by omega)))
theorem AskReplies : corbellaw24_AskReplies.Pure := by
  intro a0 a1 l2 x3 w0 w1 w2 w3 ⟨y0, y1, y2, y3, y4, y5, y6⟩
  suffices h : Ev (fun k => corbellaw24_AskReplies.f k a0 a1 l2 x3.f0 x3.f1 x3.f2 x3.f3 x3.f4 x3.f5 x3.f6) true by
    obtain ⟨K, hK⟩ := h; exact ⟨K, hK K (Nat.le_refl K)⟩
  have v5 := wf_u64 y5
  have b2 : isBytes l2 := bytes_wf w2.2
  have c0 := pick_nn a0 40 (by omega)
  have c1 := pick_lt a0 40 (by omega)
  refine Ev.bind known_f (ev_pos rfl (ev_bind1 (pick_f a0 40 (by omega) (by omega)) (Ev.bind (ev_eq (reply_f _ a1 l2 (by omega)) (rep_eq _ a1 _ c0 c1)) ?_)))
  by_cases h : a0 % 40 = 0
  · refine ev_pos h ?_
    rw [if_pos h]
    exact j0_f _ a1 l2 l2 _ _ _ _ _ _ _ _ c0 c1 b2 (fun _ => rfl) (by unfold wrap64; omega) v5.1 v5.2
  · refine ev_neg h ?_
    rw [if_neg h]
    exact j0_f _ a1 [] l2 _ _ _ _ _ _ _ _ c0 c1 bytes_nil (fun q => absurd q h) (by simp) v5.1 v5.2

end Go.Proofs.Ythpkhegoamhgeaa.Pure
