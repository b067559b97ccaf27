/- A small machine, run forward with what comes next in its hand: kinds of values, one operation, a region, code. No condition. -/
import Derived.Test.YtnjeafdbifcfhaaDenS
namespace Go.Proofs.Ytnjeafdbifcfhaa.Den
open Go
set_option linter.unusedSimpArgs false
set_option linter.unusedVariables false

/-- a slice, by its parts -/
structure Sl where
  a : Option Addr
  n : Nat
  c : Nat
def Sl.v (s : Sl) : Value := .slice s.a s.n s.c
/-- kinds of one cell -/
inductive Fl where
  | int (k : IntKind)
  | bool
  | str
  | sl
  | ptr
  | map
inductive Kd where
  | int (k : IntKind)
  | bool
  | str
  | sl
  | ptr
  | map
  | agg
  | fn (id : Nat) (n : Nat)
  | st (l : List Fl)
  | any
def Fl.T : Fl → Type
  | .int _ => Int
  | .bool => Bool
  | .str => ByteArray
  | .sl => Sl
  | .ptr => Option Addr
  | .map => Option Nat
def Fl.v : (k : Fl) → k.T → Value
  | .int k, n => .int k n
  | .bool, b => .bool b
  | .str, s => .string s
  | .sl, s => .slice (Sl.a s) (Sl.n s) (Sl.c s)
  | .ptr, p => .pointer p
  | .map, m => .map m
/-- the cells of a struct -/
def FT : List Fl → Type
  | [] => Unit
  | [k] => k.T
  | k :: q :: l => k.T × FT (q :: l)
def encF : (l : List Fl) → FT l → List Value
  | [], _ => []
  | [k], x => [k.v x]
  | k :: q :: l, x => k.v (Prod.fst x) :: encF (q :: l) (Prod.snd x)
/-- so many pointers -/
def PT : Nat → Type
  | 0 => Unit
  | 1 => Option Addr
  | n + 2 => Option Addr × PT (n + 1)
def encP : (n : Nat) → PT n → List Value
  | 0, _ => []
  | 1, p => [.pointer p]
  | n + 2, p => .pointer (Prod.fst p) :: encP (n + 1) (Prod.snd p)
def decP : (n : Nat) → List Value → Option (PT n)
  | 0, l => match l with
    | [] => some ()
    | _ => none
  | 1, l => match l with
    | [.pointer p] => some p
    | _ => none
  | n + 2, l => match l with
    | .pointer p :: l => (decP (n + 1) l).bind fun q => some (p, q)
    | _ => none
theorem decP_inv : ∀ {n : Nat} {l : List Value} {p : PT n}, decP n l = some p → l = encP n p
  | 0, l, p, h => by
    unfold decP at h
    split at h
    · rfl
    · cases h
  | 1, l, p, h => by
    unfold decP at h
    split at h
    · cases h; rfl
    · cases h
  | n + 2, l, p, h => by
    unfold decP at h
    split at h
    · obtain ⟨q, h1, h2⟩ := Option.bind_eq_some_iff.1 h
      cases h2
      rw [decP_inv h1]; rfl
    · cases h
def Kd.T : Kd → Type
  | .int _ => Int
  | .bool => Bool
  | .str => ByteArray
  | .sl => Sl
  | .ptr => Option Addr
  | .map => Option Nat
  | .agg => Array Value
  | .fn _ n => PT n
  | .st l => FT l
  | .any => Value
def mkV : (k : Kd) → k.T → Value
  | .int k, n => .int k n
  | .bool, b => .bool b
  | .str, s => .string s
  | .sl, s => .slice (Sl.a s) (Sl.n s) (Sl.c s)
  | .ptr, p => .pointer p
  | .map, m => .map m
  | .agg, cs => .agg cs
  | .fn id n, p => .func (.func id) #[] (encP n p).toArray
  | .st l, x => .agg (encF l x).toArray
  | .any, v => v
def asI (k : IntKind) : Option Value → Option Int
  | some (.int k' n) => if k' = k then some n else none
  | _ => none
def asB : Option Value → Option Bool
  | some (.bool b) => some b
  | _ => none
def asT : Option Value → Option ByteArray
  | some (.string s) => some s
  | _ => none
def asS : Option Value → Option Sl
  | some (.slice a n c) => some ⟨a, n, c⟩
  | _ => none
def asP : Option Value → Option (Option Addr)
  | some (.pointer p) => some p
  | _ => none
def asM : Option Value → Option (Option Nat)
  | some (.map m) => some m
  | _ => none
def asA : Option Value → Option (Array Value)
  | some (.agg cs) => some cs
  | _ => none
def asFl : (k : Fl) → Option Value → Option k.T
  | .int k, o => asI k o
  | .bool, o => asB o
  | .str, o => asT o
  | .sl, o => asS o
  | .ptr, o => asP o
  | .map, o => asM o
def decF : (l : List Fl) → List Value → Option (FT l)
  | [], vs => match vs with
    | [] => some ()
    | _ => none
  | [k], vs => match vs with
    | [v] => asFl k (some v)
    | _ => none
  | k :: q :: l, vs => match vs with
    | v :: vs => (asFl k (some v)).bind fun x => (decF (q :: l) vs).bind fun y => some (x, y)
    | _ => none
def asSt (l : List Fl) : Option Value → Option (FT l)
  | some (.agg cs) => decF l cs.toList
  | _ => none
def asF (id n : Nat) : Option Value → Option (PT n)
  | some (.func (.func id') a c) => match a.toList with
    | [] => cond (Nat.beq id id') (decP n c.toList) none
    | _ => none
  | _ => none
def asK : (k : Kd) → Option Value → Option k.T
  | .int k, o => asI k o
  | .bool, o => asB o
  | .str, o => asT o
  | .sl, o => asS o
  | .ptr, o => asP o
  | .map, o => asM o
  | .agg, o => asA o
  | .fn id n, o => asF id n o
  | .st l, o => asSt l o
  | .any, o => o
theorem asI_inv {k : IntKind} {o : Option Value} {n : Int} (h : asI k o = some n) : o = some (.int k n) := by
  unfold asI at h
  split at h
  · split at h
    · rename_i e; cases h; rw [e]
    · cases h
  · cases h
theorem asB_inv {o : Option Value} {b : Bool} (h : asB o = some b) : o = some (.bool b) := by
  unfold asB at h; split at h
  · cases h; rfl
  · cases h
theorem asT_inv {o : Option Value} {x : ByteArray} (h : asT o = some x) : o = some (.string x) := by
  unfold asT at h; split at h
  · cases h; rfl
  · cases h
theorem asS_inv {o : Option Value} {x : Sl} (h : asS o = some x) : o = some (.slice x.a x.n x.c) := by
  unfold asS at h; split at h
  · cases h; rfl
  · cases h
theorem asP_inv {o : Option Value} {x : Option Addr} (h : asP o = some x) : o = some (.pointer x) := by
  unfold asP at h; split at h
  · cases h; rfl
  · cases h
theorem asM_inv {o : Option Value} {x : Option Nat} (h : asM o = some x) : o = some (.map x) := by
  unfold asM at h; split at h
  · cases h; rfl
  · cases h
theorem asFl_inv : ∀ {k : Fl} {o : Option Value} {x : k.T}, asFl k o = some x → o = some (k.v x)
  | .int k, o, x, h => asI_inv h
  | .bool, o, x, h => asB_inv h
  | .str, o, x, h => asT_inv h
  | .sl, o, x, h => asS_inv h
  | .ptr, o, x, h => asP_inv h
  | .map, o, x, h => asM_inv h
theorem decF_inv : ∀ {l : List Fl} {vs : List Value} {x : FT l}, decF l vs = some x → vs = encF l x
  | [], [], x, h => rfl
  | [], v :: vs, x, h => by cases h
  | [k], [], x, h => by cases h
  | [k], [v], x, h => by
    have h : asFl k (some v) = some x := h
    rw [Option.some.inj (asFl_inv h)]; rfl
  | [k], v :: u :: vs, x, h => by cases h
  | k :: q :: l, [], x, h => by cases h
  | k :: q :: l, v :: vs, x, h => by
    have h : ((asFl k (some v)).bind fun x => (decF (q :: l) vs).bind fun y => some (x, y)) = some x := h
    obtain ⟨y, h1, h⟩ := Option.bind_eq_some_iff.1 h
    obtain ⟨z, h2, h⟩ := Option.bind_eq_some_iff.1 h
    cases h
    rw [Option.some.inj (asFl_inv h1), decF_inv h2]; rfl
theorem asK_inv : ∀ {k : Kd} {o : Option Value} {x : k.T}, asK k o = some x → o = some (mkV k x)
  | .int k, o, x, h => asI_inv h
  | .bool, o, x, h => asB_inv h
  | .str, o, x, h => by
    have h : asT o = some x := h
    unfold asT at h; split at h
    · cases h; rfl
    · cases h
  | .sl, o, x, h => by
    have h : asS o = some x := h
    unfold asS at h; split at h
    · cases h; rfl
    · cases h
  | .ptr, o, x, h => by
    have h : asP o = some x := h
    unfold asP at h; split at h
    · cases h; rfl
    · cases h
  | .map, o, x, h => by
    have h : asM o = some x := h
    unfold asM at h; split at h
    · cases h; rfl
    · cases h
  | .agg, o, x, h => by
    have h : asA o = some x := h
    unfold asA at h; split at h
    · cases h; rfl
    · cases h
  | .fn id n, o, x, h => by
    have h : asF id n o = some x := h
    unfold asF at h
    split at h
    · rename_i id' a c _
      split at h
      · rename_i ha
        obtain ⟨h1, h2⟩ := cond_some h
        have h1 := Nat.eq_of_beq_eq_true h1
        subst h1
        have := decP_inv h2
        have ea : a = #[] := by
          rw [← Array.toArray_toList (xs := a), ha]
        show some (Value.func (.func id) a c) = some (Value.func (.func id) #[] (encP n x).toArray)
        rw [ea, ← this]
      · cases h
    · cases h
  | .st l, o, x, h => by
    have h : asSt l o = some x := h
    unfold asSt at h
    split at h
    · rename_i cs _
      show some (Value.agg cs) = some (.agg (encF l x).toArray)
      rw [← decF_inv h]
    · cases h
  | .any, o, x, h => h
/-- the cells of a zero value, by their kinds -/
def flatK : List Value → Option (List Fl)
  | [] => some []
  | v :: l => match v with
    | .int k _ => (flatK l).map (Fl.int k :: ·)
    | .bool _ => (flatK l).map (Fl.bool :: ·)
    | .string _ => (flatK l).map (Fl.str :: ·)
    | .slice _ _ _ => (flatK l).map (Fl.sl :: ·)
    | .pointer _ => (flatK l).map (Fl.ptr :: ·)
    | .map _ => (flatK l).map (Fl.map :: ·)
    | _ => none
def kindS (P : Program) (t : TypeId) : Kd :=
  match P.info? t with
  | some i => match i.zero with
    | some z => match flatK z.cells.toList with
      | some l => cond (Nat.ble l.length 16) (.st l) .agg
      | none => .agg
    | none => .agg
  | none => .agg
/-- the kind of a type's values -/
def kindT (P : Program) (t : TypeId) : Kd :=
  match P.underlying t with
  | some (.int k) => .int k
  | some .bool => .bool
  | some .string => .str
  | some (.slice _) => .sl
  | some (.pointer _) => .ptr
  | some (.map _ _) => .map
  | some (.struct _) => kindS P t
  | some (.array _ _) => .agg
  | _ => .any
def kindN : Option Value → Kd
  | some (.pointer _) => .ptr
  | _ => .any
def kindO (P : Program) (ρ : Env) (op : Op) (t : TypeId) : Kd :=
  match op with
  | .fieldAddr _ _ _ => .ptr
  | .indexAddr _ _ _ => .ptr
  | .nilCheck x => kindN (ρ x)
  | .load _ _ => kindT P t
  | .index _ _ _ => kindT P t
  | .lookup _ _ _ false => kindT P t
  | .field _ _ _ => kindT P t
  | .slice _ _ _ _ _ => kindT P t
  | .convert _ _ _ => kindT P t
  | .binOp _ _ _ _ _ => kindT P t
  | .makeSlice _ _ _ => kindT P t
  | .call _ => kindT P t
  | _ => .any
def kvalH {R : Type} (kd : Kd) (o : Option (Value × H)) (K : Value → H → Option R) : Option R :=
  match kd with
  | .any => o.bind fun p => K p.1 p.2
  | k => (o.bind fun p => (asK k (some p.1)).bind fun x => some (x, p.2)).bind fun q => K (mkV k q.1) q.2
def kval {R : Type} (kd : Kd) (o : Option Value) (K : Value → Option R) : Option R := (asK kd o).bind fun x => K (mkV kd x)
theorem kval_some {R : Type} {kd : Kd} {o : Option Value} {K : Value → Option R} {r : R} (h : kval kd o K = some r) : ∃ v, o = some v ∧ K v = some r := by
  unfold kval at h
  cases hq : asK kd o with
  | none => rw [hq] at h; cases h
  | some x => rw [hq] at h; exact ⟨_, asK_inv hq, h⟩
theorem kvalH_some {R : Type} {kd : Kd} {o : Option (Value × H)} {K : Value → H → Option R} {r : R} (h : kvalH kd o K = some r) : ∃ v h', o = some (v, h') ∧ K v h' = some r := by
  cases o with
  | none => cases kd <;> cases h
  | some p =>
    refine ⟨p.1, p.2, rfl, ?_⟩
    unfold kvalH at h
    split at h
    · exact h
    · rename_i k _
      simp only [Option.bind_some] at h
      cases hq : asK kd (some p.1) with
      | none => rw [hq] at h; cases h
      | some x => rw [hq] at h; have e := Option.some.inj (asK_inv hq); rw [e]; exact h

/-- what a map tells, and whether -/
def as2 (kd : Kd) (o : Option Value) : Option (kd.T × Bool) :=
  match o with
  | some (.tuple a) => match a.toList with
    | [v, .bool b] => (asK kd (some v)).bind fun x => some (x, b)
    | _ => none
  | _ => none
theorem as2_inv {kd : Kd} {o : Option Value} {q : kd.T × Bool} (h : as2 kd o = some q) : o = some (.tuple #[mkV kd q.1, .bool q.2]) := by
  unfold as2 at h
  split at h
  · rename_i a
    split at h
    · rename_i v b ha
      obtain ⟨x, h1, h2⟩ := Option.bind_eq_some_iff.1 h
      cases h2
      have e : a = #[v, .bool b] := by rw [← Array.toArray_toList (xs := a), ha]
      have e2 := Option.some.inj (asK_inv h1)
      rw [e, e2]
    · cases h
  · cases h
/-- the next sign of a string -/
noncomputable def nxtB (h : H) (b : Nat) (x : Option Blk) : Option (Option (Nat × Int × H)) :=
  match x with
  | some (.iter s pos _) => cond (Nat.blt pos s.size) (some (some (pos, ((Utf8.decode s pos).1 : Int), h.put b (.iter s (pos + (Utf8.decode s pos).2) h.clock)))) (some none)
  | _ => none
noncomputable def nxt (h : H) (x : Option Value) : Option (Option (Nat × Int × H)) :=
  match x with
  | some (.pointer (some ⟨b, 0, none⟩)) => nxtB h b (h.get b)
  | _ => none
def nxtV (h : H) : Option (Nat × Int × H) → Value × H
  | none => (.tuple #[.bool false], h)
  | some r => (.tuple #[.bool true, .int .i64 (.ofNat r.1), .int .i32 r.2.1], r.2.2)
theorem nxt_inv {h : H} {x : Option Value} {q : Option (Nat × Int × H)} (e : nxt h x = some q) : nextA h x = some (nxtV h q) := by
  unfold nxt at e
  split at e
  · rename_i b
    cases hb : h.get b with
    | none => rw [hb] at e; cases e
    | some y =>
      rw [hb] at e
      cases y with
      | iter s pos ver =>
        have e : cond (Nat.blt pos s.size) (some (some (pos, ((Utf8.decode s pos).1 : Int), h.put b (.iter s (pos + (Utf8.decode s pos).2) h.clock)))) (some none) = some q := e
        have hn : nextA h (some (.pointer (some ⟨b, 0, none⟩))) = cond (Nat.blt pos s.size)
          (some (.tuple #[.bool true, .int .i64 (.ofNat pos), .int .i32 (Utf8.decode s pos).1], h.put b (.iter s (pos + (Utf8.decode s pos).2) h.clock)))
          (some (.tuple #[.bool false], h)) := by
          unfold nextA
          simp only [hb]
        rw [hn]
        cases hl : Nat.blt pos s.size with
        | true => rw [hl] at e; cases e; rfl
        | false => rw [hl] at e; cases e; rfl
      | row l B => cases e
      | ro l B => cases e
      | map es c v => cases e
  · cases e
def kindM (P : Program) (t : TypeId) : Kd :=
  match P.underlying t with
  | some (.map _ e) => kindT P e
  | _ => .any
abbrev Tbl := ∀ (R : Type), FuncId → List Value → H → (Value → H → Option R) → Option R
def noCall : CallF := fun _ _ _ => none
noncomputable section
/-- one operation -/
def kop (P : Program) (tbl : Tbl) (R : Type) (op : Op) (t : TypeId) (ρ : Env) (h : H) (K : Value → H → Option R) : Option R :=
  match op with
  | .move x => match ρ x with
    | some v => K v h
    | none => none
  | .assign x => match ρ x with
    | some v => K v h
    | none => none
  | .call c => match c.callee with
    | .value f => match envl ρ c.args.toList with
      | some vs => match ρ f with
        | some (.func (.func k) first captured) => tbl R k (first.toList ++ vs ++ captured.toList) h K
        | _ => none
      | none => none
    | _ => kvalH (kindT P t) (aop P noCall op ρ h) K
  | .fieldAddr s x f => kval .ptr (on1 (fun v => fieldAddrA P s v f) (ρ x)) fun v => K v h
  | .indexAddr s x i => kval .ptr (on2 (indexAddrA P s) (ρ x) (ρ i)) fun v => K v h
  | .load s x => kval (kindT P t) (on1 (loadA P s h) (ρ x)) fun v => K v h
  | .field s x f => kval (kindT P t) (on1 (fun v => fieldA P s v f) (ρ x)) fun v => K v h
  | .index s x i => kval (kindT P t) (on2 (indexA P s) (ρ x) (ρ i)) fun v => K v h
  | .slice s x lo hi mx => kval (kindT P t) (on1 (fun v => sliceA P ρ s v lo hi mx) (ρ x)) fun v => K v h
  | .binOp bop s x y _ => kval (kindT P t) (binO P ρ bop s x y) fun v => K v h
  | .lookup s x i false => kval (kindT P t) (on2 (lookupA P s false h) (ρ x) (ρ i)) fun v => K v h
  | .lookup s x i true => (as2 (kindM P s) (on2 (lookupA P s true h) (ρ x) (ρ i))).bind fun q => K (.tuple #[mkV (kindM P s) q.1, .bool q.2]) h
  | .next x true => (nxt h (ρ x)).bind fun q => match q with
    | none => K (.tuple #[.bool false]) h
    | some r => K (.tuple #[.bool true, .int .i64 (.ofNat r.1), .int .i32 r.2.1]) r.2.2
  | .convert s d x => match P.underlying s, P.underlying d with
    | some (.slice e), some .string => kval .str (on1 (textA P e h) (ρ x)) fun v => K v h
    | _, _ => kvalH (kindT P t) (aop P noCall op ρ h) K
  | .nilCheck x => kval (kindN (ρ x)) (on1 nilA (ρ x)) fun v => K v h
  | op => kvalH (kindO P ρ op t) (aop P noCall op ρ h) K
def kstep (P : Program) (tbl : Tbl) (N : Nat) (R : Type) (o : Oper) (s : S) (h : H) (K : S → H → Option R) : Option R :=
  kop P tbl R o.op o.type (envOf s) h fun v h' => match putA N s o.dst v with
    | some s' => K s' h'
    | none => none
def sameG : Option (Nat × Bool) → Option (Nat × Bool) → Bool
  | none, none => true
  | some (j, w), some (j', w') => Nat.beq j j' && (w == w')
  | _, _ => false
/-- how many operations hang on this guard, or on one among them -/
def glen (j : Nat) (w : Bool) (i : Nat) (l : List Oper) : Nat :=
  List.rec (motive := fun _ => Nat) 0 (fun o _ ih => match o.guard with
    | some (j', w') => cond ((Nat.beq j j' && (w == w')) || Nat.ble i j') (Nat.succ ih) 0
    | none => 0) l
def gOk (N : Nat) (ops : Array Oper) (s : S) (j : Nat) (l : List Oper) : Nat → Bool :=
  List.rec (motive := fun _ => Nat → Bool) (fun _ => true) (fun o _ ih m => (match o.dst with
    | some t => (s.get t).isNone && Nat.blt t N
    | none => true) && (match o.guard with
    | some (j', _) => Nat.blt j' m && (Nat.beq j j' || ((ops[j']?).bind (·.dst)).isSome)
    | none => false) && ih (m + 1)) l
def csel {R : Type} (w b : Bool) (on off : Option R) : Option R := Bool.rec (motive := fun _ => Option R) (cond b off on) (cond b on off) w
/-- a region that does not draw -/
def kdo (P : Program) (tbl : Tbl) (N : Nat) (ops : Array Oper) (fuel : Nat) : ∀ (R : Type), Option (Nat × Bool) → Nat → List Oper → S → H → (S → H → Option R) → Option R :=
  Nat.rec (motive := fun _ => ∀ (R : Type), Option (Nat × Bool) → Nat → List Oper → S → H → (S → H → Option R) → Option R) (fun _ _ _ _ _ _ _ => none)
    (fun _ ih R cur i l s h K => match l with
      | [] => K s h
      | o :: l' => cond (sameG cur o.guard) (kstep P tbl N R o s h fun s' h' => ih R cur (i + 1) l' s' h' K)
        (match o.guard with
          | some (j, w) => match (ops[j]?).bind (·.dst) with
            | some t => match s.get t with
              | some (.bool b) => match (o :: l').drop (glen j w i (o :: l')) with
                | q :: rest => match q.op, q.dst with
                  | .pick (.tmp t') x y, some d => cond (sameG cur q.guard && Nat.beq t t' && gOk N ops s j ((o :: l').take (glen j w i (o :: l'))) i && Nat.blt d N)
                      ((csel w b (ih (Bool × H) (some (j, w)) i ((o :: l').take (glen j w i (o :: l'))) s h fun s1 h1 => (asB (envOf s1 (cond w x y))).bind fun z => some (z, h1)) ((asB (envOf s (cond w y x))).bind fun z => some (z, h))).bind
                        fun p => ih R cur (i + glen j w i (o :: l') + 1) rest (s.put d (.bool p.1)) p.2 K) none
                  | _, _ => none
                | [] => none
              | _ => none
            | none => none
          | none => none)) fuel
/-- a region that draws -/
def rdef (op : Op) (ρ : Env) : Bool :=
  match op with
  | .load _ x => (ρ x).isSome
  | .lookup _ x _ _ => (ρ x).isSome
  | .convert _ _ x => (ρ x).isSome
  | .call c => match c.args.toList with
    | [x] => (ρ x).isSome
    | _ => true
  | _ => true
def dynS (P : Program) (ops : Array Oper) (tr : List (S × H)) : Bool :=
  (pairsOf P ops).all fun q => match ops[q.1]? with
    | none => false
    | some o => rdef o.op (envOf (sAt tr q.1)) && match rblk o.op (envOf (sAt tr q.1)) with
      | none => true
      | some b => sameVer (hAt tr q.2) (hAt tr (q.2 + 1)) b
def kdrw (P : Program) (tbl : Tbl) (N : Nat) (R : Type) (l : List Oper) : List (S × H) → S → H → (List (S × H) → S → H → Option R) → Option R :=
  List.rec (motive := fun _ => List (S × H) → S → H → (List (S × H) → S → H → Option R) → Option R) (fun tr s h K => K (tr ++ [(s, h)]) s h)
    (fun o _ ih tr s h K => cond (sameG none o.guard) (kstep P tbl N R o s h fun s' h' => ih (tr ++ [(s, h)]) s' h' K) none) l
/-- a region that draws, with guards: what is read, what is written, by number -/
abbrev LEs := List (Nat × Option Nat)
abbrev EFs := List (Nat × H × H)
def firstsOf (P : Program) (ops : Array Oper) (i : Nat) : Bool := (pairsOf P ops).any fun q => Nat.beq q.1 i
def secondsOf (P : Program) (ops : Array Oper) (i : Nat) : Bool := (pairsOf P ops).any fun q => Nat.beq q.2 i
def dynL (ps : List (Nat × Nat)) (le : LEs) (ef : EFs) : Bool := ps.all fun q => le.all fun x => ef.all fun y => !(Nat.beq x.1 q.1) || !(Nat.beq y.1 q.2) || match x.2 with
  | none => true
  | some b => sameVer y.2.1 y.2.2 b
/-- the slot that is read, if it is one -/
def rslot (op : Op) : Option Operand :=
  match op with
  | .load _ x => some x
  | .lookup _ x _ _ => some x
  | .convert _ _ x => some x
  | .call c => match c.args.toList with
    | [x] => some x
    | _ => none
  | _ => none
def isIn (l : List Nat) (x : Operand) : Bool := match x with
  | .tmp t => l.any fun u => Nat.beq u t
  | _ => false
/-- what operations that are not wanted would read -/
def offL (P : Program) (ops : Array Oper) (s : S) (l : List Oper) : Nat → List Nat → Option LEs :=
  List.rec (motive := fun _ => Nat → List Nat → Option LEs) (fun _ _ => some []) (fun o _ ih i pre => match ih (i + 1) (match o.dst with
      | some d => d :: pre
      | none => pre) with
    | none => none
    | some le => cond (firstsOf P ops i) (match rslot o.op with
      | none => some le
      | some x => cond (isIn pre x) (some le) (cond (envOf s x).isSome (some ((i, rblk o.op (envOf s)) :: le)) none)) (some le)) l
def kdrg (P : Program) (tbl : Tbl) (N : Nat) (ops : Array Oper) (fuel : Nat) : ∀ (R : Type), Option (Nat × Bool) → Nat → List Oper → S → H → LEs → EFs → (S → H → LEs → EFs → Option R) → Option R :=
  Nat.rec (motive := fun _ => ∀ (R : Type), Option (Nat × Bool) → Nat → List Oper → S → H → LEs → EFs → (S → H → LEs → EFs → Option R) → Option R) (fun _ _ _ _ _ _ _ _ _ => none)
    (fun _ ih R cur i l s h le ef K => match l with
      | [] => K s h le ef
      | o :: l' => cond (sameG cur o.guard) (cond (!(firstsOf P ops i) || rdef o.op (envOf s)) (kstep P tbl N R o s h fun s' h' => ih R cur (i + 1) l' s' h' (cond (firstsOf P ops i) (le ++ [(i, rblk o.op (envOf s))]) le) (cond (secondsOf P ops i) (ef ++ [(i, h, h')]) ef) K) none)
        (match o.guard with
          | some (j, w) => match (ops[j]?).bind (·.dst) with
            | some t => match s.get t with
              | some (.bool b) => match (o :: l').drop (glen j w i (o :: l')) with
                | q :: rest => match q.op, q.dst with
                  | .pick (.tmp t') x y, some d => cond (sameG cur q.guard && Nat.beq t t' && gOk N ops s j ((o :: l').take (glen j w i (o :: l'))) i && Nat.blt d N && !(firstsOf P ops (i + glen j w i (o :: l'))))
                      (match offL P ops s ((o :: l').take (glen j w i (o :: l'))) i [] with
                        | some off => ((csel w b (ih (Bool × H × LEs × EFs) (some (j, w)) i ((o :: l').take (glen j w i (o :: l'))) s h [] [] fun s1 h1 le1 ef1 => (asB (envOf s1 (cond w x y))).bind fun z => some (z, h1, le1, ef1)) ((asB (envOf s (cond w y x))).bind fun z => some (z, h, off, []))).bind
                          fun p => ih R cur (i + glen j w i (o :: l') + 1) rest (s.put d (.bool p.1)) p.2.1 (le ++ p.2.2.1) (ef ++ p.2.2.2) K)
                        | none => none) none
                  | _, _ => none
                | [] => none
              | _ => none
            | none => none
          | none => none)) fuel
def noGuard (ops : List Oper) : Bool := ops.all fun o => sameG none o.guard
def kreg (P : Program) (tbl : Tbl) (N : Nat) (R : Type) (ops : Array Oper) (draw : Bool) (s : S) (h : H) (K : S → H → Option R) : Option R :=
  cond draw (cond (statOk P ops) (cond (noGuard ops.toList) (kdrw P tbl N R ops.toList [] s h fun tr s' h' => cond (dynS P ops tr) (K s' h') none)
      (kdrg P tbl N ops (ops.toList.length + 1) R none 0 ops.toList s h [] [] fun s' h' le ef => cond (dynL (pairsOf P ops) le ef) (K s' h') none)) none)
    (kdo P tbl N ops (ops.toList.length + 1) R none 0 ops.toList s h K)
/-- slots that code sets -/
def dsts (l : List Oper) (t : Nat) : Bool := l.any fun o => match o.dst with
  | some d => Nat.beq d t
  | none => false
def asg (c : Code) : Nat → Bool :=
  Code.rec (motive := fun _ => Nat → Bool) (fun _ => false) (fun _ ops _ t => dsts ops.toList t) (fun _ _ a b t => a t || b t) (fun _ _ _ a b t => a t || b t) (fun _ _ a t => a t) (fun _ a t => a t) (fun _ _ _ _ _ _ _ => false) (fun _ _ => false) (fun _ a t => a t) (fun _ _ => false) (fun _ _ => false) (fun _ => false) (fun _ _ => false) c
def mkS (l : List (Nat × Value)) : S := List.rec (motive := fun _ => S) .nil (fun p _ ih => ih.put p.1 p.2) l
/-- the values of some slots -/
def getS (s : S) (l : List Nat) : Option (List (Nat × Value)) := List.rec (motive := fun _ => Option (List (Nat × Value))) (some []) (fun t _ ih => match s.get t, ih with
  | some v, some vs => some ((t, v) :: vs)
  | _, _ => none) l
/-- the slots behind: those that stay, those that are told -/
def aftS (s : S) (c : Code) (keep : List Nat) (outs : List (Nat × Value)) : Option S :=
  match getS s keep with
  | some l => cond (keep.all fun t => !(asg c t)) (some (mkS (outs ++ l))) none
  | none => none
abbrev Slots := List (Nat × Kd)
/-- values of some slots -/
def Tup : Slots → Type
  | [] => Unit
  | [p] => p.2.T
  | p :: q :: l => p.2.T × Tup (q :: l)
def encT : (l : Slots) → Tup l → List (Nat × Value)
  | [], _ => []
  | [p], x => [(p.1, mkV p.2 x)]
  | p :: q :: l, x => (p.1, mkV p.2 (Prod.fst x)) :: encT (q :: l) (Prod.snd x)
def decT : (l : Slots) → S → Option (Tup l)
  | [], _ => some ()
  | [p], s => asK p.2 (s.get p.1)
  | p :: q :: l, s => (asK p.2 (s.get p.1)).bind fun x => (decT (q :: l) s).bind fun y => some (x, y)
def exEq : Ex → Ex → Bool
  | .normal, .normal => true
  | .ret, .ret => true
  | .exit i, .exit j => Nat.beq i j
  | _, _ => false
/-- where ways meet: behind a return, or as told -/
def JT : Option Slots → Slots → Type
  | none, outs => Tup outs
  | some r, outs => Tup r ⊕ Tup outs
def jout : (rets : Option Slots) → (outs : Slots) → Ex → Ex → S → Option (JT rets outs)
  | none, outs, good, e, s => cond (exEq e good) (decT outs s) none
  | some r, outs, good, e, s => cond (exEq e good) ((decT outs s).bind fun x => some (Sum.inr x)) (cond (exEq e .ret) ((decT r s).bind fun x => some (Sum.inl x)) none)
def jencK {R : Type} : (rets : Option Slots) → (outs : Slots) → Ex → JT rets outs → (Ex → List (Nat × Value) → Option R) → Option R
  | none, outs, good, x, K => K good (encT outs x)
  | some r, outs, good, x, K => match (x : Tup r ⊕ Tup outs) with
    | .inl y => K .ret (encT r y)
    | .inr y => K good (encT outs y)
abbrev Pass := ∀ (R : Type), S → H → (Ex → List (Nat × Value) → H → Option R) → Option R
/-- where ways meet, and loops: how they are passed, by their place in the code -/
inductive Ann where
  | pass (keep : List Nat) (run : Pass)
  | join (keep : List Nat) (rets : Option Slots) (outs : Slots)
def kcode (P : Program) (tbl : Tbl) (N : Nat) (an : Nat → Option Ann) (c : Code) : ∀ (R : Type), Nat → S → H → (Ex → S → H → Option R) → Option R :=
  Code.rec (motive := fun _ => ∀ (R : Type), Nat → S → H → (Ex → S → H → Option R) → Option R)
    (fun _ _ s h K => K .normal s h)
    (fun _ ops draw R _ s h K => kreg P tbl N R ops draw s h fun s' h' => K .normal s' h')
    (fun _ _ iha ihb R p s h K => iha R (2 * p) s h fun e s' h' => match e with
      | .normal => ihb R (2 * p + 1) s' h' K
      | .ret => K .ret s' h'
      | .exit id => K (.exit id) s' h')
    (fun c x y iha ihb R p s h K => match envOf s c with
      | some (.bool t) => match an p with
        | some (.join keep rets outs) => (cond t (iha (JT rets outs × H) (2 * p) s h fun e s' h' => (jout rets outs .normal e s').bind fun b => some (b, h')) (ihb (JT rets outs × H) (2 * p + 1) s h fun e s' h' => (jout rets outs .normal e s').bind fun b => some (b, h'))).bind
            fun q => jencK rets outs .normal q.1 fun e l => match aftS s (.cond c x y) keep l with
              | some s' => K e s' q.2
              | none => none
        | _ => cond t (iha R (2 * p) s h K) (ihb R (2 * p + 1) s h K)
      | _ => none)
    (fun id _ ih R p s h K => ih R (2 * p) s h fun e s' h' => match e with
      | .normal => K .normal s' h'
      | .ret => K .ret s' h'
      | .exit id' => cond (Nat.beq id id') (K .normal s' h') (K (.exit id') s' h'))
    (fun b _ R p s h K => match an p with
      | some (.pass keep run) => run R s h fun e l h' => match aftS s (.loop b) keep l with
        | some s' => K e s' h'
        | none => none
      | _ => none)
    (fun f ps x y _ _ R p s h K => match an p with
      | some (.pass keep run) => run R s h fun e l h' => match aftS s (.rangeFunc f ps x y) keep l with
        | some s' => K e s' h'
        | none => none
      | _ => none)
    (fun id _ _ s h K => K (.exit id) s h)
    (fun _ ih R p s h K => ih R (2 * p) s h K)
    (fun _ _ _ s h K => K .normal s h)
    (fun _ _ _ _ _ _ => none)
    (fun _ _ s h K => K .ret s h)
    (fun _ _ _ _ _ _ => none) c
/-- the parts of code for which more is owed -/
def need (an : Nat → Option Ann) (c : Code) : Nat → List (Code × Pass) :=
  Code.rec (motive := fun _ => Nat → List (Code × Pass)) (fun _ => []) (fun _ _ _ _ => []) (fun _ _ a b p => a (2 * p) ++ b (2 * p + 1)) (fun _ _ _ a b p => a (2 * p) ++ b (2 * p + 1)) (fun _ _ a p => a (2 * p))
    (fun b _ p => match an p with
      | some (.pass _ run) => [(.loop b, run)]
      | _ => [])
    (fun f ps x y _ _ p => match an p with
      | some (.pass _ run) => [(.rangeFunc f ps x y, run)]
      | _ => [])
    (fun _ _ => []) (fun _ a p => a (2 * p)) (fun _ _ => []) (fun _ _ => []) (fun _ => []) (fun _ _ => []) c
/-- kinds of what is handed back -/
def RT : List Kd → Type
  | [] => Unit
  | [k] => k.T
  | k :: q :: l => k.T × RT (q :: l)
def encL : (l : List Kd) → RT l → List Value
  | [], _ => []
  | [k], x => [mkV k x]
  | k :: q :: l, x => mkV k (Prod.fst x) :: encL (q :: l) (Prod.snd x)
def decL : (l : List Kd) → List Value → Option (RT l)
  | [], vs => match vs with
    | [] => some ()
    | _ => none
  | [k], vs => match vs with
    | [v] => asK k (some v)
    | _ => none
  | k :: q :: l, vs => match vs with
    | v :: vs => (asK k (some v)).bind fun x => (decL (q :: l) vs).bind fun y => some (x, y)
    | _ => none
def resV1 : List Value → Value
  | [v] => v
  | vs => .tuple vs.toArray
/-- what a function hands back -/
def kres (P : Program) (R : Type) (s : S) (h : H) : List ResultVar → (List Value → Option R) → Option R
  | [], K => K []
  | .tmp t :: l, K => match s.get t with
    | some v => kres P R s h l fun vs => K (v :: vs)
    | none => none
  | .cell a t :: l, K => match s.get a with
    | some x => kval (kindT P t) (loadA P t h x) fun v => kres P R s h l fun vs => K (v :: vs)
    | none => none
def kout (P : Program) (R : Type) (fn : Func) (K : List Value → H → Option R) (e : Ex) (s : S) (h : H) : Option R :=
  match e with
  | .exit _ => none
  | _ => kres P R s h fn.results.toList fun vs => K vs h
def kfun (P : Program) (tbl : Tbl) (an : Nat → Option Ann) (R : Type) (fn : Func) (args : List Value) (h : H) (K : List Value → H → Option R) : Option R :=
  match fn.body with
  | none => none
  | some c => cond (Nat.ble args.length fn.ntmps) (kcode P tbl fn.ntmps an c R 1 (slotsOf .nil 0 args) h (kout P R fn K)) none
end
end Go.Proofs.Ytnjeafdbifcfhaa.Den
