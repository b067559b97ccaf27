/- The coder's sums, in plain lists. No condition. -/
import Derived.Test.YtnjeafdbifcfhaaFwCod2
namespace Go.Proofs.Ytnjeafdbifcfhaa.Fw
open Go Den Fwd GF
set_option linter.unusedVariables false
set_option linter.unusedSimpArgs false
def zx (a b : List UInt8) : List UInt8 := List.zipWith (fun u v => u ^^^ v) a b
def zm (a b : Mx) : Mx := List.zipWith zx a b
theorem zx_get (a b : List UInt8) (i : Nat) : (zx a b)[i]? = match a[i]?, b[i]? with | some u, some v => some (u ^^^ v) | _, _ => none := by
  unfold zx
  rw [List.getElem?_zipWith]
  cases a[i]? <;> cases b[i]? <;> rfl
theorem zx_len {a b : List UInt8} (h : a.length = b.length) : (zx a b).length = a.length := by unfold zx; rw [List.length_zipWith]; omega
theorem xor4 (a b c d : UInt8) : (a ^^^ b) ^^^ (c ^^^ d) = (a ^^^ c) ^^^ (b ^^^ d) := by
  rw [UInt8.xor_assoc, ← UInt8.xor_assoc b, UInt8.xor_comm b c, UInt8.xor_assoc c, ← UInt8.xor_assoc]
theorem addRow_zx (x : UInt8) (o o' r r' : List UInt8) : addRow x (zx o o') (zx r r') = zx (addRow x o r) (addRow x o' r') := by
  apply List.ext_getElem?
  intro i
  rw [zx_get]
  unfold addRow
  rw [List.getElem?_zipWith, List.getElem?_zipWith, List.getElem?_zipWith, zx_get, zx_get]
  cases o[i]? with
  | none => simp
  | some a =>
    cases o'[i]? with
    | none => cases r[i]? <;> simp
    | some b =>
      cases r[i]? with
      | none => simp
      | some c =>
        cases r'[i]? with
        | none => simp
        | some d =>
          show some ((a ^^^ b) ^^^ mulB x (c ^^^ d)) = some ((a ^^^ mulB x c) ^^^ (b ^^^ mulB x d))
          rw [mulB_add, xor4]
theorem rowP_zx : ∀ (xs o o' : List UInt8) (m m' : Mx), m.length = m'.length → rowP (zx o o') xs (zm m m') = zx (rowP o xs m) (rowP o' xs m')
  | [], o, o', m, m', _ => by unfold rowP; rfl
  | x :: xs, o, o', [], [], _ => by unfold zm rowP; rfl
  | x :: xs, o, o', [], _ :: _, h => by cases h
  | x :: xs, o, o', _ :: _, [], h => by cases h
  | x :: xs, o, o', r :: m, r' :: m', h => by
    show rowP (addRow x (zx o o') (zx r r')) xs (zm m m') = zx (rowP (addRow x o r) xs m) (rowP (addRow x o' r') xs m')
    rw [addRow_zx, rowP_zx xs _ _ m m' (by simpa using h)]
theorem zx_zero (n : Nat) : zx (List.replicate n 0) (List.replicate n 0) = List.replicate n 0 := by
  apply List.ext_getElem?
  intro i
  rw [zx_get, List.getElem?_replicate]
  by_cases c : i < n
  · rw [if_pos c]; rfl
  · rw [if_neg c]
theorem chunks_zx (x y : List UInt8) : chunks (zx x y) = zm (chunks x) (chunks y) := by
  unfold chunks zm zx
  simp only [List.take_zipWith, List.drop_zipWith, List.zipWith_cons_cons, List.zipWith_nil_left]
theorem enc_get {x : List UInt8} {i : Nat} (hx : x.length = 128) : (encP x)[i]? = (cRows[i]?).map fun r => rowP (List.replicate 32 0) r (chunks x) := by
  unfold encP mulM
  rw [List.getElem?_map]
  have : (hd (chunks x)).length = 32 := by show (x.take 32).length = 32; rw [List.length_take]; omega
  rw [this]
theorem enc_zx {x y : List UInt8} (hx : x.length = 128) (hy : y.length = 128) : encP (zx x y) = zm (encP x) (encP y) := by
  apply List.ext_getElem?
  intro i
  rw [enc_get (by rw [zx_len (by omega)]; exact hx)]
  unfold zm
  rw [List.getElem?_zipWith, enc_get hx, enc_get hy]
  cases cRows[i]? with
  | none => rfl
  | some r =>
    show some (rowP (List.replicate 32 0) r (chunks (zx x y))) = some (zx (rowP (List.replicate 32 0) r (chunks x)) (rowP (List.replicate 32 0) r (chunks y)))
    have := rowP_zx r (List.replicate 32 0) (List.replicate 32 0) (chunks x) (chunks y) rfl
    rw [zx_zero] at this
    rw [chunks_zx, this]
theorem enc_len (x : List UInt8) : (encP x).length = 6 := rfl
theorem enc_row {x : List UInt8} (hx : x.length = 128) : ∀ r ∈ encP x, r.length = 32 := fun r hr => by
  obtain ⟨q, _, rfl⟩ := List.mem_map.1 hr
  have : (hd (chunks x)).length = 32 := by show (x.take 32).length = 32; rw [List.length_take]; omega
  rw [this, rowP_len, List.length_replicate]
  intro p hp
  rw [List.length_replicate, (chunks_rt hx).al p hp, this]
theorem PartsR.len {h : H} {ps : Parts} : (mxv ps).length = ps.length := List.length_map _
end Go.Proofs.Ytnjeafdbifcfhaa.Fw
