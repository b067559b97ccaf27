/- What the iterator of slices.Chunk over bytes does: it hands its yield the pieces, one by one. -/
import Derived.RangeFuncKeeps
import Derived.RangeFuncLeaves
import Derived.WalkKit
import Derived.OwnWalkIn
import Derived.TacticsInMore
import Derived.LoopNIn
import Derived.LoopIn
import Derived.Shelf.RegionOpen
import Derived.Test.YtnjeafdbifcfhaaDenNamed
import Derived.KernelRfl
namespace Go.Proofs.Ytnjeafdbifcfhaa.Den
open Go Go.RowKit
attribute [local go_sem] Oper.semAt_some

structure Hid (p : Prop) : Prop where
  out : p

def part (r o len n i : Nat) : Value := .slice (some ⟨r, o + i * n, none⟩) (min n (len - i * n)) (min n (len - i * n))

set_option maxRecDepth 100000 in
set_option maxHeartbeats 2000000 in
theorem chunk_in (m l Bs Bn r o len n : Nat) (h1 : 1 ≤ n) (hbig : len + n < 4611686018427387904) (J : Nat → World → Prop)
    (hs : ∀ i W, J i W → ∃ cap, len ≤ cap ∧ W.cell? ⟨Bs, 0, none⟩ = some (.slice (some ⟨r, o, none⟩) len cap))
    (hn : ∀ i W, J i W → W.cell? ⟨Bn, 0, none⟩ = some (.int .i64 n))
    (hdr : ∀ i W, J i W → J i W.drew)
    (hY : ∀ i W, J i W → i * n < len → YieldAt Fence.wide (m - 1) Try.prog l #[part r o len n i] W fun e W' => e = .returned (.bool true) ∧ J (i + 1) W')
    (W : World) (h0 : J 0 W) :
    CallsIn Fence.wide m Try.prog 72 #[.func (.yield l) #[] #[], .pointer (some ⟨Bs, 0, none⟩), .pointer (some ⟨Bn, 0, none⟩)] W fun e W' => (∃ v, e = .returned v) ∧ ∃ i, J i W' ∧ len ≤ i * n ∧ (i = 0 ∨ (i - 1) * n < len) := by
  refine callsIn_of_wp Try.func72 rfl trivial ?_ rfl
  simp only [Try.ntmps72, List.size_toArray, List.length_cons, List.length_nil, Nat.reduceAdd, Nat.reduceSub, Array.replicate_succ, Array.replicate_zero, List.push_toArray, List.append_toArray, List.nil_append, List.cons_append]
  gi_wp2
  gi_loopw [4] (fun p wr => ∃ i, p = .int .i64 (i * n : Nat) ∧ J i wr ∧ (i = 0 ∨ (i - 1) * n < len))
    (fun p wr => match p with | .int _ k => len + n - k.toNat | _ => 0)
  case atStart => exact ⟨0, by simp, h0, .inl rfl⟩
  case round =>
    obtain ⟨i, rfl, hJ, hi⟩ := hrel
    obtain ⟨cap, hcap, hs0⟩ := hs i wr hJ
    have hn0 := hn i wr hJ
    gi_wp2
    · rename_i hc
      have hlt : i * n < len := by have := Int.natCast_mul i n; omega
      have hM : Try.prog.follows .mixedOrders = true := by kernel_rfl
      have hd := hdr i wr hJ
      have hs1 : wr.drew.cell? ⟨Bs, 0, none⟩ = some (.slice (some ⟨r, o, none⟩) len cap) := hs0
      obtain ⟨fn, tmps, assign, body, hy, hR⟩ := hY i _ hd hlt
      gi_region_o
      have he : (if len - i * n < n then ((len - i * n : Nat) : Int) else (n : Int)) = ((min n (len - i * n) : Nat) : Int) := by
        split <;> omega
      simp only [he]
      unfold part at hy
      obtain ⟨p, hp⟩ : ∃ p, p = i * n := ⟨_, rfl⟩
      simp only [← hp] at hy hlt ⊢
      obtain ⟨q, hq⟩ : ∃ q, q = min n (len - p) := ⟨_, rfl⟩
      have hq1 : 1 ≤ q := by omega
      have hq2 : p + q ≤ len := by omega
      have hq3 : Hid (p + q = len ∨ q = n) := ⟨by omega⟩
      simp only [← hq] at hy ⊢
      have hp' : Hid (p = i * n) := ⟨hp⟩
      clear hp hq he
      gi_wp2
      refine ⟨fun q => Bool.noConfusion q, hR.mono ?_⟩
      rintro e W3 ⟨rfl, hJ3⟩
      have hn3 := hn _ W3 hJ3
      gi_wp2
      have hpp := hp'.out
      refine ⟨⟨i + 1, ?_, hJ3, .inr (by rw [Nat.add_sub_cancel, ← hpp]; exact hlt)⟩, ?_⟩
      · have : ((p : Int) + (n : Int)) = (((i + 1) * n : Nat) : Int) := by rw [hpp, Nat.succ_mul]; simp
        rw [this]
      · rw [← hpp]
        show len + n - ((p : Int) + (n : Int)).toNat < len + n - ((p : Nat) : Int).toNat
        omega
    · rename_i hc
      gi_wp2
      go_end0
      exact ⟨⟨_, rfl⟩, i, hJ, by have := Int.natCast_mul i n; omega, hi⟩

set_option maxRecDepth 100000 in
set_option maxHeartbeats 2000000 in
theorem chunk_in0 (m l Bs Bn cap : Nat) (base : Option Addr) (W : World) (hs : W.cell? ⟨Bs, 0, none⟩ = some (.slice base 0 cap)) :
    CallsIn Fence.wide m Try.prog 72 #[.func (.yield l) #[] #[], .pointer (some ⟨Bs, 0, none⟩), .pointer (some ⟨Bn, 0, none⟩)] W fun e W' => (∃ v, e = .returned v) ∧ W' = W := by
  refine callsIn_of_wp Try.func72 rfl trivial ?_ rfl
  simp only [Try.ntmps72, List.size_toArray, List.length_cons, List.length_nil, Nat.reduceAdd, Nat.reduceSub, Array.replicate_succ, Array.replicate_zero, List.push_toArray, List.append_toArray, List.nil_append, List.cons_append]
  gi_wp2
  gi_loopw [4] (fun p wr => p = .int .i64 0 ∧ wr = W) (fun _ _ => 0)
  case atStart => exact ⟨rfl, rfl⟩
  case round =>
    obtain ⟨rfl, rfl⟩ := hrel
    gi_wp2
    go_end0
    exact ⟨⟨_, rfl⟩, rfl⟩

def chunkC : FuncId → Bool := fun k => Nat.beq k 72
theorem chunkC_law : ∀ k, chunkC k = true → ChunkLaw Try.prog k := by
  intro k h
  have h : k = 72 := Nat.eq_of_beq_eq_true h
  subst h
  exact ⟨enters_of Try.func72 (by kernel_rfl) rfl,
    fun m l Bs Bn r o len n h1 hbig J hs hn hdr hY W h0 => (chunk_in m l Bs Bn r o len n h1 hbig J hs hn hdr hY W h0).mono fun e W' ⟨k1, i, k2, k3, _⟩ => ⟨k1, i, k2, k3⟩,
    fun m l Bs Bn cap base W hs => chunk_in0 m l Bs Bn cap base W hs⟩
end Go.Proofs.Ytnjeafdbifcfhaa.Den
