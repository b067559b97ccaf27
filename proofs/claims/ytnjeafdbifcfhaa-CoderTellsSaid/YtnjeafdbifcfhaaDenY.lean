/- Words of the forward runs, without types' numbers. No condition. -/
import Derived.Test.YtnjeafdbifcfhaaDenX
import Derived.Test.YtnjeafdbifcfhaaDenNamed
namespace Go.Proofs.Ytnjeafdbifcfhaa.Den
open Go
set_option linter.unusedSimpArgs false
set_option linter.unusedVariables false
noncomputable section
/-- one cell -/
def ldc (h : H) (p : Option Addr) : Option Value :=
  match p with
  | some ⟨b, o, none⟩ => h.cell b o
  | _ => none
/-- several cells -/
def lda (n : Nat) (h : H) (p : Option Addr) : Option Value :=
  match p with
  | some ⟨b, o, none⟩ => match h.gets b o n with
    | some vs => some (.agg vs.toArray)
    | none => none
  | _ => none
def fadd (off : Nat) (p : Option Addr) : Option Value :=
  match p with
  | some ⟨b, o, none⟩ => some (.pointer (some ⟨b, o + off, none⟩))
  | _ => none
/-- an element's address -/
def ixs (es : Nat) (a : Option Addr) (n : Nat) (i : Int) : Option Value :=
  match a, i with
  | some ⟨b, o, none⟩, .ofNat j => cond (Nat.blt j n) (some (.pointer (some ⟨b, o + j * es, none⟩))) none
  | _, _ => none
/-- a byte of a string -/
def ixt (s : ByteArray) (i : Int) : Option Value :=
  match i with
  | .ofNat j => match s.data.toList[j]? with
    | some c => some (.int .u8 (.ofNat c.toNat))
    | none => none
  | _ => none
/-- an element of an array that is a value -/
def ixv (len es : Nat) (cs : Array Value) (i : Int) : Option Value :=
  match i with
  | .ofNat j => cond (Nat.blt j len) (cs[j * es]?) none
  | _ => none
def parts (n : Nat) (cs : Array Value) (off : Nat) : Option Value := cond (Nat.ble (off + n) cs.size) (some (.agg (cs.extract off (off + n)))) none
def ixg (len es : Nat) (cs : Array Value) (i : Int) : Option Value :=
  match i with
  | .ofNat j => cond (Nat.blt j len) (parts es cs (j * es)) none
  | _ => none
def bnd (x : Option Int) (d : Nat) : Option Nat :=
  match x with
  | none => some d
  | some x => match x with
    | .ofNat n => some n
    | _ => none
def zero2 (lo hi : Option Int) (v : Value) : Option Value :=
  match bnd lo 0, bnd hi 0 with
  | some l, some h => cond (Nat.beq l 0 && Nat.beq h 0) (some v) none
  | _, _ => none
/-- s[lo:hi] -/
def subs (es : Nat) (x : Value) (lo hi : Option Int) : Option Value :=
  match x with
  | .slice none 0 0 => zero2 lo hi (.slice none 0 0)
  | .slice (some ⟨b, o, none⟩) len cap => match bnd lo 0, bnd hi len with
    | some l, some h => slice2 b o es len cap l h
    | _, _ => none
  | .slice (some ⟨0, 0, some 0⟩) 0 0 => zero2 lo hi emptyV
  | _ => none
/-- p[lo:hi] of an array -/
def subp (n es : Nat) (p : Option Addr) (lo hi : Option Int) : Option Value :=
  match p with
  | some ⟨b, o, none⟩ => match bnd lo 0, bnd hi n with
    | some l, some h => cond (Nat.ble l h && Nat.ble h n && Nat.blt n unk) (some (.slice (some ⟨b, cond (Nat.beq n l) o (o + l * es), none⟩) (h - l) (n - l))) none
    | _, _ => none
  | _ => none
def subt (s : ByteArray) (lo hi : Option Int) : Option Value :=
  match bnd lo 0, bnd hi s.size with
  | some l, some h => cond (Nat.ble l h && Nat.ble h s.size) (some (.string (s.extract l h))) none
  | _, _ => none
/-- bytes as a string -/
def txt (h : H) (x : Value) : Option Value :=
  match x with
  | .slice none 0 0 => some (.string .empty)
  | .slice (some ⟨0, 0, some 0⟩) 0 0 => some (.string .empty)
  | .slice (some ⟨b, o, none⟩) len _ => match h.gets b o len with
    | some vs => match bytesA vs with
      | some bs => some (.string ⟨bs.toArray⟩)
      | none => none
    | none => none
  | _ => none
def asS2 (o : Option (Value × H)) : Option (Sl × H) := o.bind fun p => (asS (some p.1)).bind fun x => some (x, p.2)
def asI2 (k : IntKind) (o : Option (Value × H)) : Option (Int × H) := o.bind fun p => (asI k (some p.1)).bind fun x => some (x, p.2)
def apN (e sz by_ : Nat) (s : Value) (n : Nat) (new : List Value) (h : H) : Option (Value × H) :=
  match s with
  | .slice base len cap => cond (Nat.blt 140737488355328 ((len + n) * by_) || !(new.all one) || !(Nat.beq new.length (n * sz))) none
      (match base with
        | none => cond (Nat.beq n 0) (some (.slice none 0 0, h)) (some (.slice (some ⟨h.next, 0, none⟩) n (unkOf sz), h.new (rowOf new e sz h.clock)))
        | some ⟨b, o, none⟩ => match h.rowAt b with
          | some B => growA B b o len n cap sz e new h
          | none => none
        | some ⟨_, _, some _⟩ => cond (Nat.beq n 0 && Nat.beq len 0) (some (emptyV, h)) none)
  | _ => none
/-- append(s, x...) -/
def apv (e sz by_ : Nat) (s x : Value) (h : H) : Option (Value × H) :=
  match lenV x with
  | some n => match firstA h sz n x with
    | some new => apN e sz by_ s n new h
    | none => none
  | none => none
def apz (e sz by_ : Nat) (zs : List Value) (s : Value) (n : Int) (h : H) : Option (Value × H) :=
  match n with
  | .ofNat n => cond (Nat.ble (n * by_) 140737488355328 && Nat.ble n 140737488355328 && Nat.beq zs.length sz) (apN e sz by_ s n ((List.range (n * sz)).map (zAt zs)) h) none
  | _ => none
/-- copy(d, s) -/
def cpy (sz : Nat) (d s : Value) (h : H) : Option (Value × H) :=
  match d, lenV s with
  | .slice base dlen _, some m => match firstA h sz (Nat.min m dlen) s with
    | some cs => match base with
      | none => cond (Nat.beq cs.length 0) (some (.int .i64 (.ofNat (Nat.min m dlen)), h)) none
      | some ⟨b, o, none⟩ => match storeA h b o cs with
        | some h' => some (.int .i64 (.ofNat (Nat.min m dlen)), h')
        | none => none
      | some ⟨_, _, some _⟩ => cond (Nat.beq cs.length 0) (some (.int .i64 (.ofNat (Nat.min m dlen)), h)) none
    | none => none
  | _, _ => none
/-- what is stored -/
def stv (n : Nat) (h : H) (p : Option Addr) (cells : List Value) : Option (Value × H) :=
  match p with
  | some ⟨b, o, none⟩ => cond (Nat.beq cells.length n) (unit (storeA h b o cells)) none
  | _ => none
/-- new memory -/
def newR (h : H) (e sz : Nat) (cells : List Value) : H := h.new (rowOf cells e sz h.clock)
def newZ (h : H) (e sz : Nat) (zs : List Value) (n : Nat) : H := h.new (.row true ⟨.nil, zs, n * sz, e, sz, h.clock⟩)
def newT (h : H) (e : Nat) (s : ByteArray) : H := h.new (rowOf (s.data.toList.map fun c => .int .u8 (.ofNat c.toNat)) e 1 h.clock)
def mkzN (e sz by_ : Nat) (zs : List Value) (l c : Int) (clock : Nat) : New :=
  match l, c with
  | .ofNat l, .ofNat c => cond (Nat.ble l c && Nat.ble (by_ * c) 140737488355328 && Nat.ble c 140737488355328 && Nat.blt 0 sz && Nat.beq zs.length sz) (some (.row true ⟨.nil, zs, c * sz, e, sz, clock⟩, fun b => .slice (some ⟨b, 0, none⟩) l c)) none
  | _, _ => none
def mkz (e sz by_ : Nat) (zs : List Value) (l c : Int) (h : H) : Option (Value × H) := nv h (mkzN e sz by_ zs l c h.clock)
def isNil {α : Type} (a : Option α) : Bool := a.isNone
/-- maps -/
def mlook (z : Value) (h : H) (m : Option Nat) (k : Value) : Option Value :=
  match m with
  | none => some z
  | some b => match h.get b with
    | some (.map es _ _) => match findA k es 0 with
      | some (some (_, v)) => some v
      | some none => some z
      | none => none
    | _ => none
def mlook2 (z : Value) (h : H) (m : Option Nat) (k : Value) : Option Value :=
  match m with
  | none => some (.tuple #[z, .bool false])
  | some b => match h.get b with
    | some (.map es _ _) => match findA k es 0 with
      | some (some (_, v)) => some (.tuple #[v, .bool true])
      | some none => some (.tuple #[z, .bool false])
      | none => none
    | _ => none
def mlen (h : H) (m : Option Nat) : Option Value :=
  match m with
  | none => some (.int .i64 0)
  | some b => match h.get b with
    | some (.map es _ _) => some (.int .i64 (.ofNat es.length))
    | _ => none
def mput (m : Option Nat) (k v : Value) (h : H) : Option (Value × H) := unit (mputH (.map m) k v h)
def cvs (h : H) (x : Value) : Option (Value × H) :=
  match x with
  | .slice (some ⟨b, _, none⟩) _ _ => match h.rowAt b with
    | some _ => some (x, h)
    | none => none
  | _ => none
def bitI (op : BinOp) (k : IntKind) (a b : Int) : Option Value := intA op k a b
end
end Go.Proofs.Ytnjeafdbifcfhaa.Den
