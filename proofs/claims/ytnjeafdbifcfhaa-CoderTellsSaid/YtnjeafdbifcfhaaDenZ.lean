/- What the forward runs of this program take as known, and how a part of code is named. No condition. -/
import Derived.Test.YtnjeafdbifcfhaaDenY
namespace Go.Proofs.Ytnjeafdbifcfhaa.Den
open Go
set_option linter.unusedVariables false
noncomputable section
/-- functions of which something may be known beforehand -/
def knownFs : List Nat := [19,31,43]
def notKnown (f : Nat) : Bool := !(knownFs.any fun k => Nat.beq k f)
/-- the closures of slices.Chunk -/
def chunkFs : List Nat := [72]
structure XOk (C : FuncId → Bool) (X : CallF) : Prop where
  chunk : ∀ f : FuncId, (chunkFs.any fun k => Nat.beq k f) = true → C f = true
  no : ∀ (f : FuncId) (args : List Value) (h : H), notKnown f = true → X f args h = none
/-- of a function it is known that it comes to true -/
def KOk (X : CallF) (f : FuncId) : Prop := ∀ h : H, X f [] h = some (.bool true, h)
def knownW : Wr := fun R args h K => match args with
  | [] => K (.bool true) h
  | _ => none
theorem knownW_told {P : Program} {C : FuncId → Bool} {X : CallF} {f : FuncId} (hK : KOk X f) : WrS P C X f knownW := by
  intro R args h K r e
  unfold knownW at e
  split at e
  · refine ⟨_, h, ⟨1, fun n hn L hL => ?_⟩, e⟩
    obtain ⟨n, rfl⟩ : ∃ m, n = m + 1 := ⟨n - 1, by omega⟩
    rw [dcall_succ, hK h]
  · cases e
/-- a part of code, by the way to it -/
def cat (c : Code) (l : List Nat) : Code :=
  match l with
  | [] => c
  | b :: l => match c with
    | .seq x y => match b with
      | 0 => cat x l
      | _ => cat y l
    | .cond _ x y => match b with
      | 0 => cat x l
      | _ => cat y l
    | .block _ x => cat x l
    | .loop x => cat x l
    | .scope x => cat x l
    | .rangeFunc _ _ x y => match b with
      | 0 => cat x l
      | _ => cat y l
    | _ => .skip
def chkF (l : List (Nat × Nat)) (args : List Value) : Bool := l.all fun p => match args[p.1]? with
  | some (.func (.func j) _ _) => Nat.beq j p.2
  | _ => false
def same1 (h h' : H) (v : Option Value) : Bool :=
  match blkOf v with
  | none => true
  | some b => sameVer h h' b
def binO1 (P : Program) (op : BinOp) (t : TypeId) (x y : Value) : Option Value := binB P op t x y
def capV (a : Option Addr) (c : Nat) : Option Value :=
  match a with
  | none => cond (isUnk c) none (some (.int .i64 (.ofNat c)))
  | some ⟨_, _, none⟩ => cond (isUnk c) none (some (.int .i64 (.ofNat c)))
  | _ => none
end
end Go.Proofs.Ytnjeafdbifcfhaa.Den
