/- A small machine for closed runs: words of the abstract heap, and what each operation does there. No condition. -/
import Derived.Orders
import Derived.Below
import Derived.LoopN
namespace Go.Proofs.Ytnjeafdbifcfhaa.Den
open Go

/-! ### a tree of numbered places -/
inductive T (α : Type) : Type where
  | nil
  | node (v : Option α) (l r : T α)
instance {α : Type} : Inhabited (T α) := ⟨.nil⟩
def T.val {α : Type} : T α → Option α
  | .nil => none
  | .node v _ _ => v
def T.lft {α : Type} : T α → T α
  | .nil => .nil
  | .node _ l _ => l
def T.rgt {α : Type} : T α → T α
  | .nil => .nil
  | .node _ _ r => r
noncomputable section
def T.get {α : Type} (t : T α) : Nat → Option α :=
  T.rec (motive := fun _ => Nat → Option α) (fun _ => none)
    (fun v _ _ gl gr n => Nat.rec (motive := fun _ => Option α) v (fun _ _ => Bool.rec (motive := fun _ => Option α) (gr (Nat.pred (Nat.div n 2))) (gl (Nat.div n 2)) (Nat.beq (Nat.mod n 2) 1)) n) t
def T.set {α : Type} (f : Nat) : T α → Nat → α → T α :=
  Nat.rec (motive := fun _ => T α → Nat → α → T α) (fun t _ _ => t)
    (fun _ ih t n x => T.rec (motive := fun _ => T α)
      (Nat.rec (motive := fun _ => T α) (.node (some x) .nil .nil) (fun _ _ => Bool.rec (motive := fun _ => T α) (.node none .nil (ih .nil (Nat.pred (Nat.div n 2)) x)) (.node none (ih .nil (Nat.div n 2) x) .nil) (Nat.beq (Nat.mod n 2) 1)) n)
      (fun v l r _ _ => Nat.rec (motive := fun _ => T α) (.node (some x) l r) (fun _ _ => Bool.rec (motive := fun _ => T α) (.node v l (ih r (Nat.pred (Nat.div n 2)) x)) (.node v (ih l (Nat.div n 2) x) r) (Nat.beq (Nat.mod n 2) 1)) n) t) f
def T.put {α : Type} (t : T α) (n : Nat) (x : α) : T α := T.set (Nat.succ n) t n x

/-! ### blocks, the heap -/
structure Row where
  cells : T Value
  z : List Value
  n : Nat
  elem : TypeId
  es : Nat
  ver : Nat
  deriving Inhabited
inductive Blk : Type where
  | row (live : Bool) (B : Row)
  | ro (lo : Nat) (l : List Value)
  | map (es : List MapEntry) (clock : Nat) (ver : Nat)
  | iter (s : ByteArray) (pos : Nat) (ver : Nat)
  deriving Inhabited
def Blk.ver : Blk → Nat
  | .row _ B => B.ver
  | .ro _ _ => 0
  | .map _ _ v => v
  | .iter _ _ v => v
def Blk.alive : Blk → Bool
  | .row l _ => l
  | .ro _ _ => false
  | _ => true
structure H where
  t : T Blk
  next : Nat
  clock : Nat
  deriving Inhabited
def H.empty : H := ⟨.nil, 0, 0⟩
def H.get (h : H) (b : Nat) : Option Blk := h.t.get b
/-- a block is written: it bears the clock -/
def H.put (h : H) (b : Nat) (x : Blk) : H := ⟨h.t.put b x, h.next, h.clock + 1⟩
def H.new (h : H) (x : Blk) : H := ⟨h.t.put h.next x, h.next + 1, h.clock + 1⟩
def zAt (z : List Value) (o : Nat) : Value := (z[o % z.length]?).getD undef
def Row.get (B : Row) (o : Nat) : Option Value := cond (Nat.blt o B.n) (some ((B.cells.get o).getD (zAt B.z o))) none
def Row.gets (B : Row) (o k : Nat) : Option (List Value) :=
  Nat.rec (motive := fun _ => Nat → Option (List Value)) (fun _ => some []) (fun _ ih o => match B.get o with
    | none => none
    | some v => match ih (Nat.succ o) with
      | none => none
      | some vs => some (v :: vs)) k o
def cellsPut (t : T Value) (o : Nat) (l : List Value) : T Value :=
  List.rec (motive := fun _ => T Value → Nat → T Value) (fun t _ => t) (fun v _ ih t o => ih (t.put o v) (Nat.succ o)) l t o

/-- a number of places that is not known -/
def unk : Nat := 4611686018427387904
def isUnk (c : Nat) : Bool := Nat.ble unk c
def unkOf (s : Nat) : Nat := unk + s
/-- an empty slice whose place is not known -/
def emptyV : Value := .slice (some ⟨0, 0, some 0⟩) 0 0
/-- the value of one cell -/
def one : Value → Bool
  | .agg _ => false
  | .tuple _ => false
  | _ => true
/-- a value without addresses -/
def plain1 : Value → Bool
  | .bool _ => true
  | .int _ _ => true
  | .string _ => true
  | .pointer none => true
  | .slice none n c => Nat.beq n 0 && Nat.beq c 0
  | .map none => true
  | .nilFunc => true
  | .nilIface => true
  | _ => false
def plain : Value → Bool
  | .agg cs => cs.toList.all plain1
  | v => plain1 v

abbrev Env := Operand → Option Value
def aggB : Option TypeDesc → Bool
  | some (.struct _) => true
  | some (.array _ _) => true
  | _ => false
def isAggA (P : Program) (t : TypeId) : Option Bool := match P.underlying t with | none => none | some (.struct _) => some true | some (.array _ _) => some true | some _ => some false
def sizeA (P : Program) (t : TypeId) : Option Nat := match P.info? t with | none => none | some i => some i.size
def zeroA (P : Program) (t : TypeId) : Option Value := match P.info? t with | none => none | some i => match i.zero with | none => none | some z => cond (plain z) (some z) none

def partA (P : Program) (t : TypeId) (cs : Array Value) (off : Nat) : Option Value :=
  match isAggA P t, sizeA P t with
  | some true, some n => cond (Nat.ble (off + n) cs.size) (some (.agg (cs.extract off (off + n)))) none
  | some false, _ => cs[off]?
  | _, _ => none

/-- wrap, the quick way for what is in range -/
def wrapA (k : IntKind) (n : Int) : Int :=
  match k, n with
  | .i64, .ofNat m => cond (Nat.ble m 9223372036854775807) (.ofNat m) (IntKind.i64.wrap n)
  | .i64, .negSucc m => cond (Nat.ble m 9223372036854775807) (.negSucc m) (IntKind.i64.wrap n)
  | .u8, .ofNat m => .ofNat (Nat.mod m 256)
  | .u64, .ofNat m => .ofNat (Nat.mod m 18446744073709551616)
  | .i32, .ofNat m => cond (Nat.ble m 2147483647) (.ofNat m) (IntKind.i32.wrap n)
  | k, n => k.wrap n

def intA (op : BinOp) (k : IntKind) (a b : Int) : Option Value :=
  match op with
  | .add => some (.int k (wrapA k (a + b)))
  | .sub => some (.int k (wrapA k (a - b)))
  | .mul => some (.int k (wrapA k (a * b)))
  | .quo => cond (b == 0) none (some (.int k (wrapA k (a.tdiv b))))
  | .rem => cond (b == 0) none (some (.int k (a.tmod b)))
  | .and => match a, b with
    | .ofNat x, .ofNat y => cond (Nat.blt x (2 ^ k.bits) && Nat.blt y (2 ^ k.bits)) (some (.int k (wrapA k (.ofNat (Nat.land x y))))) none
    | _, _ => none
  | .or => match a, b with
    | .ofNat x, .ofNat y => cond (Nat.blt x (2 ^ k.bits) && Nat.blt y (2 ^ k.bits)) (some (.int k (wrapA k (.ofNat (Nat.lor x y))))) none
    | _, _ => none
  | .xor => match a, b with
    | .ofNat x, .ofNat y => cond (Nat.blt x (2 ^ k.bits) && Nat.blt y (2 ^ k.bits)) (some (.int k (wrapA k (.ofNat (Nat.xor x y))))) none
    | _, _ => none
  | .andNot => match a, b with
    | .ofNat x, .ofNat y => cond (Nat.blt x (2 ^ k.bits) && Nat.blt y (2 ^ k.bits)) (some (.int k (wrapA k (.ofNat (Nat.land x (2 ^ k.bits - 1 - y)))))) none
    | _, _ => none
  | .eql => some (.bool (a == b))
  | .neq => some (.bool (a != b))
  | .lss => some (.bool (decide (a < b)))
  | .leq => some (.bool (decide (a ≤ b)))
  | .gtr => some (.bool (decide (a > b)))
  | .geq => some (.bool (decide (a ≥ b)))
  | _ => none

def strA (op : BinOp) (x y : ByteArray) : Option Value :=
  match op with
  | .add => cond (Nat.blt (x.size + y.size) 9223372036854775807) (some (.string (x ++ y))) none
  | .eql => some (.bool (x.toList == y.toList))
  | .neq => some (.bool !(x.toList == y.toList))
  | .lss => some (.bool (Op.bytesLess x.toList y.toList))
  | .leq => some (.bool (Op.bytesLess x.toList y.toList || x.toList == y.toList))
  | .gtr => some (.bool !(Op.bytesLess x.toList y.toList || x.toList == y.toList))
  | .geq => some (.bool !(Op.bytesLess x.toList y.toList))
  | _ => none

/-- '==' of two values that need no memory -/
def eqA : Option TypeDesc → Value → Value → Option Bool
  | some .bool, .bool a, .bool b => some (a == b)
  | some (.pointer _), .pointer none, .pointer b => some b.isNone
  | some (.pointer _), .pointer (some _), .pointer none => some false
  | some (.slice _), .slice none _ _, .slice b _ _ => some b.isNone
  | some (.slice _), .slice (some _) _ _, .slice none _ _ => some false
  | some (.map _ _), .map none, .map b => some b.isNone
  | some (.map _ _), .map (some _), .map none => some false
  | some (.func _ _ _), .nilFunc, .nilFunc => some true
  | some (.func _ _ _), .nilFunc, .func _ _ _ => some false
  | some (.func _ _ _), .func _ _ _, .nilFunc => some false
  | _, _, _ => none

def binA (P : Program) (op : BinOp) (t : TypeId) (x y : Value) : Option Value :=
  match op, x, y with
  | .shl, .int k a, .int _ b => match b with
    | .ofNat m => some (.int k (wrapA k (a * 2 ^ Nat.min m k.bits)))
    | _ => none
  | .shr, .int k a, .int _ b => match b with
    | .ofNat m => some (.int k (a.fdiv (2 ^ Nat.min m k.bits)))
    | _ => none
  | _, .int k a, .int k' b => if k = k' then intA op k a b else none
  | _, .string a, .string b => strA op a b
  | .eql, x, y => match eqA (P.underlying t) x y with | some b => some (.bool b) | none => none
  | .neq, x, y => match eqA (P.underlying t) x y with | some b => some (.bool !b) | none => none
  | _, _, _ => none

def unA (op : UnOp) (x : Value) : Option Value :=
  match op, x with
  | .neg, .int k n => some (.int k (wrapA k (0 - n)))
  | .not, .bool b => some (.bool !b)
  | _, _ => none

def envs (ρ : Env) : List (Nat × Operand) → Option (List (Nat × Value))
  | [] => some []
  | (i, x) :: l => match ρ x, envs ρ l with
    | some v, some vs => some ((i, v) :: vs)
    | _, _ => none
def envl (ρ : Env) : List Operand → Option (List Value)
  | [] => some []
  | x :: l => match ρ x, envl ρ l with
    | some v, some vs => some (v :: vs)
    | _, _ => none

def sizesA (P : Program) : List Field → Option (List (Nat × Nat))
  | [] => some []
  | f :: fs => match sizeA P f.type, sizesA P fs with
    | some n, some ns => some ((f.offset, n) :: ns)
    | _, _ => none

def buildA (P : Program) (t : TypeId) (parts : List (Nat × Value)) : Option Value :=
  match zeroA P t, P.underlying t with
  | some z, some (.struct fs) => match sizesA P fs.toList with
    | some pl => match Instr.fill (fun i => pl[i]?) z.cells parts with
      | some cs => some (.agg cs)
      | none => none
    | none => none
  | some z, some (.array _ e) => match sizeA P e with
    | some s => match Instr.fill (fun i => some (i * s, s)) z.cells parts with
      | some cs => some (.agg cs)
      | none => none
    | none => none
  | _, _ => none

def fieldAddrA (P : Program) (s : TypeId) (x : Value) (f : Nat) : Option Value :=
  match P.underlying s, x with
  | some (.struct fs), .pointer (some ⟨b, o, none⟩) => match fs[f]? with
    | some fd => match sizeA P fd.type with
      | some (_ + 1) => some (.pointer (some ⟨b, o + fd.offset, none⟩))
      | _ => none
    | none => none
  | _, _ => none

def fieldA (P : Program) (s : TypeId) (x : Value) (f : Nat) : Option Value :=
  match P.underlying s, x with
  | some (.struct fs), .agg cs => match fs[f]? with
    | some fd => partA P fd.type cs fd.offset
    | none => none
  | _, _ => none

def indexAddrA (P : Program) (t : TypeId) (x ix : Value) : Option Value :=
  match P.underlying t, x, ix with
  | some (.array len e), .pointer (some ⟨b, o, none⟩), .int _ (.ofNat i) => match sizeA P e with
    | some (s + 1) => cond (Nat.blt i len) (some (.pointer (some ⟨b, o + i * (s + 1), none⟩))) none
    | _ => none
  | some (.slice e), .slice (some ⟨b, o, none⟩) len _, .int _ (.ofNat i) => match sizeA P e with
    | some (s + 1) => cond (Nat.blt i len) (some (.pointer (some ⟨b, o + i * (s + 1), none⟩))) none
    | _ => none
  | _, _, _ => none

def indexA (P : Program) (t : TypeId) (x ix : Value) : Option Value :=
  match P.underlying t, x, ix with
  | some (.array len e), .agg cs, .int _ (.ofNat i) => match sizeA P e with
    | some s => cond (Nat.blt i len) (partA P e cs (i * s)) none
    | none => none
  | some .string, .string s, .int _ (.ofNat i) => match s.data.toList[i]? with
    | some c => some (.int .u8 (.ofNat c.toNat))
    | none => none
  | _, _, _ => none

/-- a bound that is there, or not -/
def bndA (ρ : Env) (x : Option Operand) (d : Nat) : Option Nat :=
  match x with
  | none => some d
  | some x => match ρ x with
    | some (.int _ (.ofNat n)) => some n
    | _ => none

def sliceS (ρ : Env) (s : ByteArray) (lo hi mx : Option Operand) : Option Value :=
  match mx, bndA ρ lo 0, bndA ρ hi s.size with
  | none, some l, some h => cond (Nat.ble l h && Nat.ble h s.size) (some (.string (s.extract l h))) none
  | _, _, _ => none
def zero3 (ρ : Env) (lo hi mx : Option Operand) (v : Value) : Option Value :=
  match mx with
  | none => match bndA ρ lo 0, bndA ρ hi 0 with
    | some l, some h => cond (Nat.beq l 0 && Nat.beq h 0) (some v) none
    | _, _ => none
  | some m => match bndA ρ lo 0, hi with
    | some l, some h => match bndA ρ (some h) 0, bndA ρ (some m) 0 with
      | some h, some m => cond (Nat.beq l 0 && Nat.beq h 0 && Nat.beq m 0) (some v) none
      | _, _ => none
    | _, _ => none
/-- s[l:h] of a slice of elements of s cells -/
def slice2 (b o s len cap l h : Nat) : Option Value :=
  cond (isUnk cap)
    (cond (Nat.beq cap (unkOf s) && Nat.ble l h && Nat.ble h len) (cond (Nat.beq l len) (some emptyV) (some (.slice (some ⟨b, o + l * s, none⟩) (h - l) cap))) none)
    (cond (Nat.ble l h && Nat.ble h cap) (some (.slice (some ⟨b, cond (Nat.beq cap l) o (o + l * s), none⟩) (h - l) (cap - l))) none)
/-- s[l:h:m] -/
def slice3 (b o s len cap l h m : Nat) : Option Value :=
  cond (Nat.ble l h && Nat.ble h m && Nat.ble m (cond (isUnk cap) len cap) && Nat.blt m unk) (some (.slice (some ⟨b, cond (Nat.beq m l) o (o + l * s), none⟩) (h - l) (m - l))) none
def sliceR (ρ : Env) (b o s len cap : Nat) (lo hi mx : Option Operand) : Option Value :=
  match mx with
  | none => match bndA ρ lo 0, bndA ρ hi len with
    | some l, some h => slice2 b o s len cap l h
    | _, _ => none
  | some m => match bndA ρ lo 0, hi with
    | some l, some h => match bndA ρ (some h) 0, bndA ρ (some m) 0 with
      | some h, some m => slice3 b o s len cap l h m
      | _, _ => none
    | _, _ => none
def sliceV (P : Program) (ρ : Env) (e : TypeId) (x : Value) (lo hi mx : Option Operand) : Option Value :=
  match sizeA P e with
  | some (s + 1) => match x with
    | .slice none 0 0 => zero3 ρ lo hi mx (.slice none 0 0)
    | .slice (some ⟨b, o, none⟩) len cap => sliceR ρ b o (s + 1) len cap lo hi mx
    | .slice (some ⟨0, 0, some 0⟩) 0 0 => zero3 ρ lo hi mx emptyV
    | _ => none
  | _ => none
def sliceP (P : Program) (ρ : Env) (n : Nat) (e : TypeId) (x : Value) (lo hi mx : Option Operand) : Option Value :=
  match x, mx, sizeA P e with
  | .pointer (some ⟨b, o, none⟩), none, some (s + 1) => match bndA ρ lo 0, bndA ρ hi n with
    | some l, some h => cond (Nat.ble l h && Nat.ble h n && Nat.blt n unk) (some (.slice (some ⟨b, cond (Nat.beq n l) o (o + l * (s + 1)), none⟩) (h - l) (n - l))) none
    | _, _ => none
  | _, _, _ => none
def sliceA (P : Program) (ρ : Env) (t : TypeId) (x : Value) (lo hi mx : Option Operand) : Option Value :=
  match P.underlying t with
  | some .string => match x with
    | .string s => sliceS ρ s lo hi mx
    | _ => none
  | some (.slice e) => sliceV P ρ e x lo hi mx
  | some (.array n e) => sliceP P ρ n e x lo hi mx
  | _ => none

def lenA (P : Program) (t : TypeId) (x : Value) : Option Value :=
  match P.underlying t, x with
  | some .string, .string s => some (.int .i64 (.ofNat s.data.toList.length))
  | some (.slice _), .slice _ n _ => some (.int .i64 (.ofNat n))
  | some (.array n _), _ => some (.int .i64 (.ofNat n))
  | some (.map _ _), .map none => some (.int .i64 0)
  | some (.pointer a), _ => match P.underlying a with
    | some (.array n _) => some (.int .i64 (.ofNat n))
    | _ => none
  | _, _ => none
def capA (P : Program) (t : TypeId) (x : Value) : Option Value :=
  match P.underlying t, x with
  | some (.slice _), .slice none _ c => cond (isUnk c) none (some (.int .i64 (.ofNat c)))
  | some (.slice _), .slice (some ⟨_, _, none⟩) _ c => cond (isUnk c) none (some (.int .i64 (.ofNat c)))
  | _, _ => none
def maxA : Value → Value → Option Value
  | .int k x, .int _ y => some (.int k (cond (decide (y > x)) y x))
  | _, _ => none
def minA : Value → Value → Option Value
  | .int k x, .int _ y => some (.int k (cond (decide (y < x)) y x))
  | _, _ => none
def foldA (f : Value → Value → Option Value) : Value → List Value → Option Value
  | v, [] => some v
  | v, x :: l => match f v x with
    | some w => foldA f w l
    | none => none

def nilA : Value → Option Value
  | .pointer (some a) => some (.pointer (some a))
  | .func (.func f) a c => some (.func (.func f) a c)
  | _ => none
def extractA : Value → Nat → Option Value
  | .tuple vs, i => vs[i]?
  | _, _ => none

def pickO (ρ : Env) (c a b : Operand) : Option Value :=
  match ρ c with
  | some (.bool t) => cond t (ρ a) (ρ b)
  | _ => none
def buildO (P : Program) (ρ : Env) (t : TypeId) (parts : Array (Nat × Operand)) : Option Value :=
  match envs ρ parts.toList with
  | some ps => buildA P t ps
  | none => none
/-- '==' of a field that is a number, a string, a bool -/
def eqL : Option TypeDesc → Value → Value → Option Bool
  | some (.int _), .int k a, .int k' b => if k = k' then some (a == b) else none
  | some .string, .string a, .string b => some (a.toList == b.toList)
  | some .bool, .bool a, .bool b => some (a == b)
  | _, _, _ => none
def fieldsEq (P : Program) (xs ys : Array Value) : List Field → Option Bool
  | [] => some true
  | f :: fs => cond (f.name == "_") none (match partA P f.type xs f.offset, partA P f.type ys f.offset with
    | some a, some b => match eqL (P.underlying f.type) a b with
      | some r => cond r (fieldsEq P xs ys fs) (some false)
      | none => none
    | _, _ => none)
def eqS (P : Program) (op : BinOp) (t : TypeId) (xs ys : Array Value) : Option Value :=
  match P.underlying t with
  | some (.struct fs) => cond (P.stoodInHeld t || P.eqGuardType P.depth t) none (match op, fieldsEq P xs ys fs.toList with
    | .eql, some b => some (.bool b)
    | .neq, some b => some (.bool !b)
    | _, _ => none)
  | _ => none
def binB (P : Program) (op : BinOp) (t : TypeId) (x y : Value) : Option Value :=
  match x, y with
  | .agg xs, .agg ys => eqS P op t xs ys
  | x, y => binA P op t x y
def binO (P : Program) (ρ : Env) (op : BinOp) (t : TypeId) (x y : Operand) : Option Value :=
  match ρ x, ρ y with
  | some a, some b => binB P op t a b
  | _, _ => none
def on1 (f : Value → Option Value) (x : Option Value) : Option Value :=
  match x with
  | some v => f v
  | none => none
def on2 (f : Value → Value → Option Value) (x y : Option Value) : Option Value :=
  match x, y with
  | some v, some w => f v w
  | _, _ => none
def funcO (ρ : Env) (fn : Fn) (first captured : Array Operand) : Option Value :=
  match envl ρ first.toList, envl ρ captured.toList with
  | some a, some c => some (.func fn a.toArray c.toArray)
  | _, _ => none
def fold0 (f : Value → Value → Option Value) : List Value → Option Value
  | [] => none
  | v :: vs => foldA f v vs

/-- the block of an address, if it is a row that lives -/
def H.rowAt (h : H) (b : Nat) : Option Row :=
  match h.get b with
  | some (.row true B) => some B
  | _ => none

/-- cells of a block: of a row that lives, or of one that is only read -/
def roGets (lo : Nat) (l : List Value) (o n : Nat) : Option (List Value) := cond (Nat.ble lo o && Nat.ble (o - lo + n) l.length) (some ((l.drop (o - lo)).take n)) none
def H.gets (h : H) (b o n : Nat) : Option (List Value) :=
  match h.get b with
  | some (.row true B) => B.gets o n
  | some (.ro lo l) => roGets lo l o n
  | _ => none
def H.cell (h : H) (b o : Nat) : Option Value :=
  match h.get b with
  | some (.row true B) => B.get o
  | some (.ro lo l) => cond (Nat.ble lo o) (l[o - lo]?) none
  | _ => none

/-- bytes of cells -/
def bytesA : List Value → Option (List UInt8)
  | [] => some []
  | .int .u8 (.ofNat n) :: l => match bytesA l with
    | some bs => some (UInt8.ofNat n :: bs)
    | none => none
  | _ => none

def keyEq : Value → Value → Option Bool
  | .int k a, .int k' b => if k = k' then some (a == b) else none
  | .string a, .string b => some (a == b)
  | .bool a, .bool b => some (a == b)
  | _, _ => none
def findA (k : Value) : List MapEntry → Nat → Option (Option (Nat × Value))
  | [], _ => some none
  | e :: es, i => match keyEq k e.key with
    | some true => some (some (i, e.val))
    | some false => findA k es (i + 1)
    | none => none
def keyDesc : Option TypeDesc → Value → Bool
  | some (.int _), .int _ _ => true
  | some .string, .string _ => true
  | some .bool, .bool _ => true
  | _, _ => false

def loadA (P : Program) (t : TypeId) (h : H) (x : Value) : Option Value :=
  match x with
  | .pointer (some ⟨b, o, none⟩) => match isAggA P t, sizeA P t with
    | some true, some n => match h.gets b o n with
      | some vs => some (.agg vs.toArray)
      | none => none
    | some false, _ => h.cell b o
    | _, _ => none
  | _ => none
def textA (P : Program) (e : TypeId) (h : H) (x : Value) : Option Value :=
  match P.underlying e with
  | some (.int .u8) => match x with
    | .slice none 0 0 => some (.string .empty)
    | .slice (some ⟨0, 0, some 0⟩) 0 0 => some (.string .empty)
    | .slice (some ⟨b, o, none⟩) len _ => match h.gets b o len with
      | some vs => match bytesA vs with
        | some bs => some (.string ⟨bs.toArray⟩)
        | none => none
      | none => none
    | _ => none
  | _ => none
def lookA (P : Program) (et : TypeId) (ok : Bool) (es : List MapEntry) (k : Value) : Option Value :=
  match findA k es 0 with
  | some (some (_, v)) => some (cond ok (.tuple #[v, .bool true]) v)
  | some none => match zeroA P et with
    | some z => some (cond ok (.tuple #[z, .bool false]) z)
    | none => none
  | none => none
def lookupA (P : Program) (t : TypeId) (ok : Bool) (h : H) (x k : Value) : Option Value :=
  match P.underlying t with
  | some (.map kt et) => cond (keyDesc (P.underlying kt) k) (match x with
    | .map none => lookA P et ok [] k
    | .map (some b) => match h.get b with
      | some (.map es _ _) => lookA P et ok es k
      | _ => none
    | _ => none) none
  | _ => none
def mapLenA (h : H) (x : Value) : Option Value :=
  match x with
  | .map (some b) => match h.get b with
    | some (.map es _ _) => some (.int .i64 (.ofNat es.length))
    | _ => none
  | _ => none

def rowOf (cs : List Value) (elem es clock : Nat) : Blk := .row true ⟨cellsPut .nil 0 cs, [], cs.length, elem, es, clock⟩

abbrev New := Option (Blk × (Nat → Value))
def allocA (P : Program) (t : TypeId) (clock : Nat) : New :=
  match P.info? t, zeroA P t with
  | some i, some z => some (rowOf z.cells.toList t i.size clock, fun b => .pointer (some ⟨b, 0, none⟩))
  | _, _ => none
def boxA (P : Program) (t : TypeId) (clock : Nat) (x : Option Value) : New :=
  match P.info? t, x with
  | some i, some v => some (rowOf v.cells.toList t i.size clock, fun b => .pointer (some ⟨b, 0, none⟩))
  | _, _ => none
def buildSliceA (P : Program) (ρ : Env) (t : TypeId) (len : Nat) (parts : Array (Nat × Operand)) (clock : Nat) : New :=
  match P.underlying t, envs ρ parts.toList with
  | some (.slice e), some ps => match sizeA P e, zeroA P e with
    | some (s + 1), some z => cond (Nat.ble (len * (s + 1)) 16777216 && Nat.beq z.cells.size (s + 1))
        (match Instr.fill (fun i => some (i * (s + 1), s + 1)) ((Array.range (len * (s + 1))).map (z.cells[· % z.cells.size]!)) ps with
          | some cs => some (rowOf cs.toList e (s + 1) clock, fun b => .slice (some ⟨b, 0, none⟩) len len)
          | none => none) none
    | _, _ => none
  | _, _ => none
def makeSliceA (P : Program) (t : TypeId) (clock : Nat) (l c : Option Value) : New :=
  match P.underlying t, l, c with
  | some (.slice e), some (.int _ (.ofNat l)), some (.int _ (.ofNat c)) => match P.info? e, zeroA P e with
    | some i, some z => cond (Nat.ble l c && Nat.ble (i.bytes * c) 140737488355328 && Nat.ble c 140737488355328 && Nat.blt 0 i.size && Nat.beq z.cells.size i.size)
        (some (.row true ⟨.nil, z.cells.toList, c * i.size, e, i.size, clock⟩, fun b => .slice (some ⟨b, 0, none⟩) l c)) none
    | _, _ => none
  | _, _, _ => none
def rangeA (P : Program) (t : TypeId) (clock : Nat) (x : Option Value) : New :=
  match P.underlying t, x with
  | some .string, some (.string s) => some (.iter s 0 clock, fun b => .pointer (some ⟨b, 0, none⟩))
  | _, _ => none
def bytesO (P : Program) (e : TypeId) (clock : Nat) (s : ByteArray) : New :=
  match P.underlying e, sizeA P e with
  | some (.int .u8), some 1 => some (rowOf (s.data.toList.map fun c => .int .u8 (.ofNat c.toNat)) e 1 clock, fun b => .slice (some ⟨b, 0, none⟩) s.data.toList.length (unkOf 1))
  | _, _ => none

/-- the first n elements of a slice, or a string, as cells -/
def firstA (h : H) (s n : Nat) : Value → Option (List Value)
  | .slice none 0 0 => some []
  | .slice (some ⟨0, 0, some 0⟩) 0 0 => cond (Nat.beq n 0) (some []) none
  | .slice (some ⟨b, o, none⟩) _ _ => h.gets b o (n * s)
  | .string x => some ((x.data.toList.take n).map fun c => .int .u8 (.ofNat c.toNat))
  | _ => none
def lenV : Value → Option Nat
  | .slice _ n _ => some n
  | .string s => some s.data.toList.length
  | _ => none

def storeA (h : H) (b o : Nat) (vs : List Value) : Option H :=
  match vs with
  | [] => some h
  | _ :: _ => match h.rowAt b with
    | some B => cond (Nat.ble (o + vs.length) B.n && vs.all one) (some (h.put b (.row true { B with cells := cellsPut B.cells o vs, ver := h.clock }))) none
    | none => none

def growA (B : Row) (b o len n cap es : Nat) (e : TypeId) (new : List Value) (h : H) : Option (Value × H) :=
  cond (Nat.beq B.es es)
    (cond (isUnk cap)
      (cond (Nat.beq cap (unkOf es))
        (cond (Nat.ble (o + (len + n) * es) B.n)
          (match storeA h b (o + len * es) new with
            | some h' => some (.slice (some ⟨b, o, none⟩) (len + n) cap, h')
            | none => none)
          (cond (Nat.beq o 0 && Nat.beq (len * es) B.n && Nat.beq B.elem e)
            (some (.slice (some ⟨h.next, 0, none⟩) (len + n) cap, (h.put b (.row false { B with ver := h.clock })).new (.row true ⟨cellsPut B.cells B.n new, B.z, (len + n) * es, e, es, h.clock + 1⟩)))
            none))
        none)
      (cond (Nat.ble (len + n) cap)
        (match storeA h b (o + len * es) new with
          | some h' => some (.slice (some ⟨b, o, none⟩) (len + n) cap, h')
          | none => none)
        (match B.gets o (len * es) with
          | some old => some (.slice (some ⟨h.next, 0, none⟩) (len + n) (unkOf es), h.new (rowOf (old ++ new) e es h.clock))
          | none => none)))
    none
def appendN (P : Program) (e : TypeId) (s : Value) (n : Nat) (new : List Value) (h : H) : Option (Value × H) :=
  match P.info? e, s, zeroA P e with
  | some i, .slice base len cap, some z =>
    cond (!(Nat.beq z.cells.size i.size) || Nat.beq i.size 0 || Nat.beq i.bytes 0 || Nat.blt 140737488355328 ((len + n) * i.bytes) || !(new.all one) || !(Nat.beq new.length (n * i.size))) none <|
        match base with
        | none => cond (Nat.beq n 0) (some (.slice none 0 0, h)) <|
            (some (.slice (some ⟨h.next, 0, none⟩) n (unkOf i.size), h.new (rowOf new e i.size h.clock)))
        | some ⟨b, o, none⟩ => match h.rowAt b with
          | some B => growA B b o len n cap i.size e new h
          | none => none
        | some ⟨_, _, some _⟩ => cond (Nat.beq n 0 && Nat.beq len 0) (some (emptyV, h)) none
  | _, _, _ => none
def appendA (P : Program) (t : TypeId) (s x : Value) (h : H) : Option (Value × H) :=
  match P.underlying t with
  | some (.slice e) => match sizeA P e, lenV x with
    | some z, some n => match firstA h z n x with
      | some new => appendN P e s n new h
      | none => none
    | _, _ => none
  | _ => none
/-- append of so many zeroes -/
def appendZ (P : Program) (t : TypeId) (s x : Value) (h : H) : Option (Value × H) :=
  match P.underlying t, x with
  | some (.slice e), .int _ (.ofNat n) => match zeroA P e, P.info? e with
    | some z, some i => cond (Nat.ble (n * i.bytes) 140737488355328 && Nat.ble n 140737488355328 && Nat.beq z.cells.size i.size)
        (appendN P e s n ((List.range (n * z.cells.size)).map (zAt z.cells.toList)) h) none
    | _, _ => none
  | _, _ => none

def copyA (P : Program) (t : TypeId) (d s : Value) (h : H) : Option (Value × H) :=
  match P.underlying t with
  | some (.slice e) => match sizeA P e, d, lenV s with
    | some sz, .slice base dlen _, some m => match firstA h sz (Nat.min m dlen) s with
      | some cs => match base with
        | none => cond (Nat.beq cs.length 0) (some (.int .i64 (.ofNat (Nat.min m dlen)), h)) none
        | some ⟨b, o, none⟩ => match storeA h b o cs with
          | some h' => some (.int .i64 (.ofNat (Nat.min m dlen)), h')
          | none => none
        | some ⟨_, _, some _⟩ => cond (Nat.beq cs.length 0) (some (.int .i64 (.ofNat (Nat.min m dlen)), h)) none
      | none => none
    | _, _, _ => none
  | _ => none

def mputH (m k v : Value) (h : H) : Option H :=
  match m with
  | .map (some b) => match h.get b with
    | some (.map es clock _) => match findA k es 0 with
      | some (some (i, _)) => some (h.put b (.map (es.modify i fun e => { e with key := k, val := v }) clock h.clock))
      | some none => some (h.put b (.map (es ++ [⟨k, v, clock⟩]) (clock + 1) h.clock))
      | none => none
    | _ => none
  | _ => none
def mapPutA (P : Program) (t : TypeId) (m k v : Value) (h : H) : Option H :=
  match P.underlying t with
  | some (.map kt _) => cond (keyDesc (P.underlying kt) k) (mputH m k v h) none
  | _ => none

def unit (h : Option H) : Option (Value × H) :=
  match h with
  | some h' => some (undef, h')
  | none => none
def storeO (P : Program) (t : TypeId) (h : H) (x y : Option Value) : Option (Value × H) :=
  match x, y with
  | some (.pointer (some ⟨b, o, none⟩)), some v => match sizeA P t with
    | some n => cond (Nat.beq v.cells.toList.length n) (unit (storeA h b o v.cells.toList)) none
    | none => none
  | _, _ => none
def mapPutO (P : Program) (t : TypeId) (h : H) (m k v : Option Value) : Option (Value × H) :=
  match m, k, v with
  | some m, some k, some v => unit (mapPutA P t m k v h)
  | _, _, _ => none
def nextA (h : H) (x : Option Value) : Option (Value × H) :=
  match x with
  | some (.pointer (some ⟨b, 0, none⟩)) => match h.get b with
    | some (.iter s pos _) => cond (Nat.blt pos s.size)
        (match Utf8.decode s pos with
          | (c, w) => some (.tuple #[.bool true, .int .i64 (.ofNat pos), .int .i32 c], h.put b (.iter s (pos + w) h.clock)))
        (some (.tuple #[.bool false], h))
    | _ => none
  | _ => none

/-! ### code -/
abbrev S := T Value
def envOf (s : S) : Env
  | .tmp t => s.get t
  | .const v => cond (plain v) (some v) none
  | .global _ => none
  | .func f => some (.func (.func f) #[] #[])
def putA (N : Nat) (s : S) (dst : Option Tmp) (v : Value) : Option S :=
  match dst with
  | none => some s
  | some d => cond (Nat.blt d N) (some (s.put d v)) none

inductive Ex : Type where
  | normal
  | ret
  | exit (id : Nat)
  deriving Inhabited

abbrev CallF := FuncId → List Value → H → Option (Value × H)

def pv (h : H) (x : Option Value) : Option (Value × H) :=
  match x with
  | some v => some (v, h)
  | none => none
def nv (h : H) (x : New) : Option (Value × H) :=
  match x with
  | some (B, g) => some (g h.next, h.new B)
  | none => none
def convO (P : Program) (s d : TypeId) (h : H) (x : Value) : Option (Value × H) :=
  match P.underlying s, P.underlying d with
  | some _, some (.int k) => match x with
    | .int _ n => some (.int k (wrapA k n), h)
    | _ => none
  | some (.slice e), some .string => pv h (textA P e h x)
  | some .string, some .string => match x with
    | .string _ => some (x, h)
    | _ => none
  | some .string, some (.slice e) => match x with
    | .string b => nv h (bytesO P e h.clock b)
    | _ => none
  | some (.slice _), some (.slice e) => match s == d, P.underlying e, x with
    | true, some (.int .u8), .slice (some ⟨b, _, none⟩) _ _ => match h.rowAt b with
      | some B => cond (Nat.beq B.es 1) (some (x, h)) none
      | none => none
    | _, _, _ => none
  | _, _ => none
def builtA (P : Program) (b : Builtin) (ts : Array TypeId) (vs : List Value) (h : H) : Option (Value × H) :=
  match b, ts[0]?, vs with
  | .len, some t, [x] => match P.underlying t with
    | some (.map _ _) => match x with
      | .map none => some (.int .i64 0, h)
      | x => pv h (mapLenA h x)
    | _ => pv h (lenA P t x)
  | .cap, some t, [x] => pv h (capA P t x)
  | .max, _, vs => pv h (fold0 maxA vs)
  | .min, _, vs => pv h (fold0 minA vs)
  | .append, some t, [s, x] => match ts[1]? with
    | some t1 => match P.underlying t1 with
      | some (.int _) => appendZ P t s x h
      | some _ => appendA P t s x h
      | none => none
    | none => none
  | .copy, some t, [d, s] => copyA P t d s h
  | _, _, _ => none
def enterA (call : CallF) (f : Option Value) (vs : List Value) (h : H) : Option (Value × H) :=
  match f with
  | some (.func (.func k) first captured) => call k (first.toList ++ vs ++ captured.toList) h
  | _ => none
def callA (P : Program) (call : CallF) (c : Call) (ρ : Env) (h : H) : Option (Value × H) :=
  match envl ρ c.args.toList with
  | some vs => match c.callee with
    | .value f => enterA call (ρ f) vs h
    | .builtin b => builtA P b c.argTypes vs h
    | .invoke _ _ => none
  | none => none
/-- one operation -/
def aop (P : Program) (call : CallF) (op : Op) (ρ : Env) (h : H) : Option (Value × H) :=
  match op with
  | .move x => pv h (ρ x)
  | .assign x => pv h (ρ x)
  | .pick c a b => pv h (pickO ρ c a b)
  | .build t parts => pv h (buildO P ρ t parts)
  | .nilCheck x => pv h (on1 nilA (ρ x))
  | .binOp op t x y _ => pv h (binO P ρ op t x y)
  | .unOp op _ x => pv h (on1 (unA op) (ρ x))
  | .makeFunc fn first captured => pv h (funcO ρ fn first captured)
  | .slice t x lo hi mx => pv h (on1 (fun v => sliceA P ρ t v lo hi mx) (ρ x))
  | .fieldAddr s x f => pv h (on1 (fun v => fieldAddrA P s v f) (ρ x))
  | .field s x f => pv h (on1 (fun v => fieldA P s v f) (ρ x))
  | .indexAddr t x i => pv h (on2 (indexAddrA P t) (ρ x) (ρ i))
  | .index t x i => pv h (on2 (indexA P t) (ρ x) (ρ i))
  | .extract x i => pv h (on1 (fun v => extractA v i) (ρ x))
  | .load t x => pv h (on1 (loadA P t h) (ρ x))
  | .lookup t x i ok => pv h (on2 (lookupA P t ok h) (ρ x) (ρ i))
  | .convert s d x => match ρ x with
    | some v => convO P s d h v
    | none => none
  | .alloc t => nv h (allocA P t h.clock)
  | .box t x => nv h (boxA P t h.clock (ρ x))
  | .buildSlice t n parts => nv h (buildSliceA P ρ t n parts h.clock)
  | .makeSlice t l c => nv h (makeSliceA P t h.clock (ρ l) (ρ c))
  | .makeMap _ none => nv h (some (.map [] 0 h.clock, fun b => .map (some b)))
  | .range t x => nv h (rangeA P t h.clock (ρ x))
  | .store t x y => storeO P t h (ρ x) (ρ y)
  | .mapUpdate t m k v => mapPutO P t h (ρ m) (ρ k) (ρ v)
  | .insert t m k v => mapPutO P t h (ρ m) (ρ k) (ρ v)
  | .next it true => nextA h (ρ it)
  | .call c => callA P call c ρ h
  | _ => none

def wantedA (ops : Array Oper) (s : S) (o : Oper) : Option Bool :=
  match o.guard with
  | none => some true
  | some (j, want) => match (ops[j]?).bind (·.dst) with
    | some t => match s.get t with
      | some (.bool b) => some (b == want)
      | some _ => some false
      | none => none
    | none => none

/-- one operation of a region: its state behind it -/
def dstep (P : Program) (call : CallF) (N : Nat) (ops : Array Oper) (o : Oper) (s : S) (h : H) : Option (Value × S × H) :=
  match wantedA ops s o with
  | some true => match aop P call o.op (envOf s) h with
    | some (v, h') => match putA N s o.dst v with
      | some s' => some (v, s', h')
      | none => none
    | none => none
  | some false => match putA N s o.dst undef with
    | some s' => some (undef, s', h)
    | none => none
  | none => none
def dops (P : Program) (call : CallF) (N : Nat) (ops : Array Oper) (l : List Oper) : S → H → Option (S × H) :=
  List.rec (motive := fun _ => S → H → Option (S × H)) (fun s h => some (s, h)) (fun o _ ih s h => match dstep P call N ops o s h with
    | some (_, s', h') => ih s' h'
    | none => none) l

/-! a region that draws its order: it is run in the order of the text, and held against the other orders -/
def clsOf (P : Program) (op : Op) : Nat :=
  match op with
  | .move _ | .assign _ | .pick _ _ _ | .build _ _ | .nilCheck _ | .binOp _ _ _ _ _ | .unOp _ _ _ | .makeFunc _ _ _ | .slice _ _ _ _ _ | .fieldAddr _ _ _ | .field _ _ _ | .indexAddr _ _ _ | .index _ _ _ | .extract _ _ | .load _ _ | .lookup _ _ _ _ => 0
  | .alloc _ | .box _ _ | .buildSlice _ _ _ | .makeSlice _ _ _ | .makeMap _ _ | .range _ _ => 1
  | .convert s d _ => match P.underlying s, P.underlying d with
    | some .string, some (.slice _) => 1
    | some (.slice _), some (.slice _) => 2
    | _, _ => 0
  | .call { callee := .builtin b, .. } => match b with
    | .len | .cap | .max | .min => 0
    | _ => 2
  | _ => 2
def blkOf : Option Value → Option Nat
  | some (.pointer (some ⟨b, _, _⟩)) => some b
  | some (.slice (some ⟨b, _, none⟩) _ _) => some b
  | some (.map (some b)) => some b
  | _ => none
/-- the block that is read -/
def rblk (op : Op) (ρ : Env) : Option Nat :=
  match op with
  | .load _ x => blkOf (ρ x)
  | .lookup _ x _ _ => blkOf (ρ x)
  | .convert _ _ x => blkOf (ρ x)
  | .call c => match c.args.toList with
    | [x] => blkOf (ρ x)
    | _ => none
  | _ => none
def sameVer (h h' : H) (b : Nat) : Bool :=
  match h.get b, h'.get b with
  | some x, some y => Nat.beq x.ver y.ver
  | none, none => true
  | _, _ => false
def ord (ops : Array Oper) (i j : Nat) : Bool := Nat.testBit ((Region.before ops).getD j 0) i
def edgesOf (o : Oper) : List Nat := (o.after.toList.filter (Region.binds .any)).map (·.on)
def statOk (P : Program) (ops : Array Oper) : Bool :=
  let n := ops.size
  (List.range n).all fun j => match ops[j]? with
    | none => false
    | some o =>
      (edgesOf o).all (fun e => Nat.blt e j) &&
      (List.range n).all fun i =>
        (!(ord ops i j) || ((edgesOf o).any fun e => Nat.beq e i || ord ops i e)) &&
        (match ops[i]? with
          | none => false
          | some p =>
            (match p.dst with
              | some t => (Nat.beq i j || !(o.dst == some t)) && (!((o.looksAt ops).contains t) || ord ops i j || ord ops j i)
              | none => true) &&
            (!(Nat.beq (clsOf P p.op) 2 && Nat.beq (clsOf P o.op) 2 && Nat.blt i j) || ord ops i j))
def dtrace (P : Program) (call : CallF) (N : Nat) (ops : Array Oper) (l : List Oper) : S → H → Option (List (S × H)) :=
  List.rec (motive := fun _ => S → H → Option (List (S × H))) (fun s h => some [(s, h)]) (fun o _ ih s h => match dstep P call N ops o s h with
    | some (_, s', h') => match ih s' h' with
      | some tr => some ((s, h) :: tr)
      | none => none
    | none => none) l
def hAt (tr : List (S × H)) (k : Nat) : H := match tr[k]? with
  | some p => p.2
  | none => H.empty
def sAt (tr : List (S × H)) (k : Nat) : S := match tr[k]? with
  | some p => p.1
  | none => .nil
/-- a value and an effect of which neither is ahead of the other: they hang on the text alone -/
def pairsOf (P : Program) (ops : Array Oper) : List (Nat × Nat) :=
  (List.range ops.size).flatMap fun j => match ops[j]? with
    | none => []
    | some o => cond (Nat.beq (clsOf P o.op) 0)
        (((List.range ops.size).filter fun e => match ops[e]? with
          | none => false
          | some p => Nat.beq (clsOf P p.op) 2 && !(ord ops e j) && !(ord ops j e)).map fun e => (j, e)) []
def dynOk (P : Program) (ops : Array Oper) (tr : List (S × H)) : Bool :=
  (pairsOf P ops).all fun q => match ops[q.1]? with
    | none => false
    | some o => match rblk o.op (envOf (sAt tr q.1)) with
      | none => true
      | some b => sameVer (hAt tr q.2) (hAt tr (q.2 + 1)) b
def ddraw (P : Program) (call : CallF) (N : Nat) (ops : Array Oper) (s : S) (h : H) : Option (S × H) :=
  match dtrace P call N ops ops.toList s h with
  | some tr => cond (statOk P ops && dynOk P ops tr) tr[ops.size]? none
  | none => none

def loopA (body : S → H → Option (Ex × S × H)) (n : Nat) : S → H → Option (Ex × S × H) :=
  Nat.rec (motive := fun _ => S → H → Option (Ex × S × H)) (fun _ _ => none) (fun _ ih s h => match body s h with
    | some (.normal, s', h') => ih s' h'
    | r => r) n

def regA : Option (S × H) → Option (Ex × S × H)
  | some (s', h') => some (.normal, s', h')
  | none => none
def seqA (ih : S → H → Option (Ex × S × H)) : Option (Ex × S × H) → Option (Ex × S × H)
  | some (.normal, s', h') => ih s' h'
  | r => r
def blockA (id : Nat) : Option (Ex × S × H) → Option (Ex × S × H)
  | some (.exit id', s', h') => cond (Nat.beq id id') (some (.normal, s', h')) (some (.exit id', s', h'))
  | r => r

/-- no loop over a function in it, no scope -/
def flatC (c : Code) : Bool :=
  Code.rec (motive := fun _ => Bool) true (fun _ _ _ => true) (fun _ _ a b => a && b) (fun _ _ _ a b => a && b) (fun _ _ a => a) (fun _ a => a) (fun _ _ _ _ _ _ => false) (fun _ => true) (fun _ _ => false) (fun _ => true) (fun _ => true) true (fun _ => true) c
def oneCell (h : H) (b : Nat) : Option Value := match h.rowAt b with
  | some B => B.get 0
  | none => none
/-- the piece of that number -/
def pieceA (b o len n i : Nat) : Value := .slice (some ⟨b, o + i * n, none⟩) (Nat.min n (len - i * n)) (Nat.min n (len - i * n))
/-- the rounds of a loop over the pieces of a slice, from the i-th on -/
def roundsA (N : Nat) (iha ihb : S → H → Option (Ex × S × H)) (p : Tmp) (s : S) (h0 : H) (bs bn b o len n : Nat) (fuel : Nat) : Nat → H → Option H :=
  Nat.rec (motive := fun _ => Nat → H → Option H) (fun _ _ => none) (fun _ ih i h => cond (Nat.ble len (i * n)) (some h)
    (match putA N s (some p) (pieceA b o len n i) with
      | some s1 => match iha s1 h with
        | some (.normal, s2, h2) => match ihb s2 h2 with
          | some (.normal, _, h3) => cond (sameVer h0 h3 bs && sameVer h0 h3 bn) (ih (i + 1) h3) none
          | _ => none
        | _ => none
      | none => none)) fuel
def chunkS (N L : Nat) (iha ihb : S → H → Option (Ex × S × H)) (p : Tmp) (s : S) (h : H) (bs bn : Nat) (base : Option Addr) (len cap n : Nat) : Option (Ex × S × H) :=
  match base with
  | some ⟨b, o, none⟩ => cond (Nat.ble 1 n && Nat.blt (len + n) 4611686018427387904 && Nat.ble len cap) (match roundsA N iha ihb p s h bs bn b o len n L 0 h with
    | some h' => some (.normal, s, h')
    | none => none) none
  | _ => none
def chunkV (N L : Nat) (iha ihb : S → H → Option (Ex × S × H)) (p : Tmp) (s : S) (h : H) (bs bn : Nat) : Option (Ex × S × H) :=
  match oneCell h bs, oneCell h bn with
  | some (.slice base len cap), some (.int .i64 (.ofNat n)) => cond (Nat.beq len 0) (some (.normal, s, h)) (chunkS N L iha ihb p s h bs bn base len cap n)
  | _, _ => none
def rangeFA (C : FuncId → Bool) (N L : Nat) (v : Option Value) (ps : List Tmp) (iha ihb : S → H → Option (Ex × S × H)) (s : S) (h : H) : Option (Ex × S × H) :=
  match v, ps with
  | some (.func (.func k) fst cap), [p] => match fst.toList, cap.toList with
    | [], [.pointer (some ⟨bs, 0, none⟩), .pointer (some ⟨bn, 0, none⟩)] => cond (C k) (chunkV N L iha ihb p s h bs bn) none
    | _, _ => none
  | _, _ => none

def dcode (P : Program) (C : FuncId → Bool) (call : CallF) (N L : Nat) (c : Code) : S → H → Option (Ex × S × H) :=
  Code.rec (motive := fun _ => S → H → Option (Ex × S × H))
    (fun s h => some (.normal, s, h))
    (fun _ ops draw s h => regA (Bool.rec (motive := fun _ => Option (S × H)) (dops P call N ops ops.toList s h) (ddraw P call N ops s h) draw))
    (fun _ _ iha ihb s h => seqA ihb (iha s h))
    (fun c _ _ iha ihb s h => match envOf s c with
      | some (.bool t) => cond t (iha s h) (ihb s h)
      | _ => none)
    (fun id _ ih s h => blockA id (ih s h))
    (fun _ ih s h => loopA ih L s h)
    (fun g ps x y iha ihb s h => cond (flatC x && flatC y) (rangeFA C N L (envOf s g) ps.toList iha ihb s h) none)
    (fun id s h => some (.exit id, s, h))
    (fun _ ih s h => ih s h)
    (fun _ s h => some (.normal, s, h))
    (fun _ _ _ => none)
    (fun s h => some (.ret, s, h))
    (fun _ _ _ => none) c

def resA (P : Program) (s : S) (h : H) : List ResultVar → Option (List Value)
  | [] => some []
  | .tmp t :: l => match s.get t, resA P s h l with
    | some v, some vs => some (v :: vs)
    | _, _ => none
  | .cell a t :: l => match s.get a, resA P s h l with
    | some x, some vs => match loadA P t h x with
      | some v => some (v :: vs)
      | none => none
    | _, _ => none

def slotsOf (s : S) (i : Nat) : List Value → S
  | [] => s
  | v :: vs => slotsOf (s.put i v) (i + 1) vs

def outA (P : Program) (fn : Func) (r : Option (Ex × S × H)) : Option (Value × H) :=
  match r with
  | some (.exit _, _, _) => none
  | some (_, s', h') => match resA P s' h' fn.results.toList with
    | some [v] => some (v, h')
    | some vs => some (.tuple vs.toArray, h')
    | none => none
  | none => none
/-- X: what is known of some calls beforehand -/
def dcall (P : Program) (C : FuncId → Bool) (X : CallF) (L : Nat) (n : Nat) : CallF :=
  Nat.rec (motive := fun _ => CallF) (fun _ _ _ => none) (fun _ ih f args h => match X f args h with
    | some r => some r
    | none => match P.funcs[f]? with
      | none => none
      | some fn => match fn.body with
        | none => none
        | some c => cond (Nat.ble args.length fn.ntmps) (outA P fn (dcode P C ih fn.ntmps L c (slotsOf .nil 0 args) h)) none) n
def noC : FuncId → Bool := fun _ => false
def noX : CallF := fun _ _ _ => none
/-- of these it is known that they come to true -/
def trueX (ks : List FuncId) : CallF := fun f args h => match args with
  | [] => cond (ks.any fun k => Nat.beq k f) (some (.bool true, h)) none
  | _ => none
end
end Go.Proofs.Ytnjeafdbifcfhaa.Den
