/- An abstract interpreter for loaded functions: a value is a number, a text, a list or a row of cells; no world, no orders, no capacities. Definitions alone. -/
import Derived.Still
set_option linter.unusedVariables false
namespace Go.Proofs.YtnenfgpjedddoaaGreat.AI
open Go

/-- How a slice's spare room stands: not known; the slice is nil; it is full; object i has it, at this count of changes. -/
inductive Own where
  | no | nil | full | tok (i ver : Nat)
  deriving DecidableEq, Repr, Inhabited

/-- A value, or a cell of one. T e: the elements of slices of type e. -/
inductive V {K : Type} (T : K → Type) : Type where
  | int (k : IntKind) (x : Int)
  | bool (b : Bool)
  | str (s : List UInt8)
  | sl (e : K) (xs : List (T e)) (o : Own)
  | nsl
  | agg (cs : List (V T))
  | ptr (i off : Nat)
  | npt
  | adr (cs : List (V T))
  | asl (i : Nat)
  | elt (i j off : Nat)
  | map (i : Nat)
  | nmp
  | fn (f : Nat) (first caps : List (V T))
  | nfn
  | ifc (t : Nat) (v : V T)
  | nif
  | tup (vs : List (V T))
  | stamp (i : Nat) (k : V T)
  | itr (i : Nat)
  | und

inductive Ob {K : Type} (T : K → Type) : Type where
  | box (t : Nat) (cs : List (V T))
  | arr (e : K) (xs : List (T e))
  | fro (e : K) (xs : List (T e))
  | vec (e : K) (ver : Nat)
  | map (k e : K) (ents : List (T k × T e))
  | iter (s : List UInt8) (pos : Nat)
  | dead

/-- A type as the interpreter needs it. -/
inductive Ty (K : Type) where
  | int (k : IntKind) | bool | str
  | slice (e : K)
  | struct (fs : List (Nat × Nat))      -- each field's type and the cell where it begins
  | array (n e : Nat)
  | ptr (e : Nat)
  | map (k e : K)
  | func | iface
  | other
  deriving Inhabited
def Ty.agg {K : Type} : Ty K → Bool
  | .struct _ | .array _ _ => true
  | _ => false

structure Env {K : Type} (T : K → Type) where
  enc : (e : K) → T e → List (V T)
  dec : (e : K) → List (V T) → Option (T e)
  dflt : (e : K) → T e
  eqb : (e : K) → T e → T e → Bool
  num : K → Nat                         -- the type's number
  ty : Nat → Ty K
  cts : Nat → List Nat                  -- the types of its cells
  bytes : K → Nat
  fns : Nat → Option Func
  glob : Nat → Option (List (V T))
  ints : Nat → Bool                     -- the variables of the program that hold a number that is not known
  back : Nat → Option K                 -- the functions that slices.Backward returns, and what they range over
  cut : Nat → Nat → Option (List Nat)   -- in function f, at region r: the slots that are still looked at
  cuts : Nat → Bool                     -- has the function cuts?
  own : Nat → List Bool                 -- the parameters that keep their right to append
  ownRes : Nat → Bool

variable {K : Type} [DecidableEq K] {T : K → Type}

section
variable (E : Env T)
def Env.size (t : Nat) : Nat := (E.cts t).length

def zeroL (t : Nat) : Option (V T) :=
  match E.ty t with
  | .int k => some (.int k 0)
  | .bool => some (.bool false)
  | .str => some (.str [])
  | .slice e => some (.sl e [] .nil)
  | .ptr _ => some .npt
  | .map _ _ => some .nmp
  | .func => some .nfn
  | .iface => some .nif
  | _ => none
def zerosL : List Nat → Option (List (V T))
  | [] => some []
  | t :: ts => match zeroL E t, zerosL ts with
    | some v, some vs => some (v :: vs)
    | _, _ => none
def zeroC (t : Nat) : Option (List (V T)) := zerosL E (E.cts t)
def ofCells (t : Nat) (cs : List (V T)) : Option (V T) :=
  match (E.ty t).agg with
  | true => some (.agg cs)
  | false => cs.head?
def V.cells : V T → List (V T)
  | .agg cs => cs
  | v => [v]
def zeroV (t : Nat) : Option (V T) := (zeroC E t).bind (ofCells E t)

/-- A bare nil gets its type. -/
def coerce (t : Nat) (v : V T) : V T :=
  match v with
  | .nsl => match E.ty t with
    | .slice e => .sl e [] .nil
    | _ => .nsl
  | v => v

def constV : Value → Option (V T)
  | .int k x => some (.int k x)
  | .bool b => some (.bool b)
  | .string s => some (.str s.data.toList)
  | .slice none 0 0 => some .nsl
  | .pointer none => some .npt
  | .map none => some .nmp
  | .nilFunc => some .nfn
  | .nilIface => some .nif
  | .tuple ⟨[]⟩ => some (.tup [])
  | _ => none
end

abbrev Fr {K : Type} (T : K → Type) := List (Nat × Option (V T))
def Fr.get : Fr T → Nat → Option (V T)
  | [], _ => none
  | (t, v) :: fr, n => match Nat.beq t n with
    | true => v
    | false => Fr.get fr n
def evalO (fr : Fr T) : Operand → Option (V T)
  | .tmp t => Fr.get fr t
  | .const v => constV v
  | .func f => some (.fn f [] [])
  | .global _ => none
def globA (E : Env T) : Operand → Option (V T)
  | .global g => (E.glob g).map .adr
  | _ => none

section
variable (E : Env T)
/-- '==' of single cells, or of a thing and nil, at a type. -/
def eqLeaf (t : Ty K) (x y : V T) : Option Bool :=
  match t with
  | .int _ => match x, y with
    | .int k a, .int k' b => match k == k' with
      | true => some (a == b)
      | false => none
    | _, _ => none
  | .bool => match x, y with
    | .bool a, .bool b => some (a == b)
    | _, _ => none
  | .str => match x, y with
    | .str a, .str b => some (a == b)
    | _, _ => none
  | .slice _ => match x, y with
    | .sl _ _ .nil, .nsl => some true
    | .nsl, .sl _ _ .nil => some true
    | _, _ => none
  | .ptr _ => match x, y with
    | .npt, .npt => some true
    | .ptr .., .npt => some false
    | .npt, .ptr .. => some false
    | .adr .., .npt => some false
    | .npt, .adr .. => some false
    | _, _ => none
  | .map _ _ => match x, y with
    | .nmp, .nmp => some true
    | .map .., .nmp => some false
    | .nmp, .map .. => some false
    | _, _ => none
  | .func => match x, y with
    | .nfn, .nfn => some true
    | .fn .., .nfn => some false
    | .nfn, .fn .. => some false
    | _, _ => none
  | .iface => match x, y with
    | .nif, .ifc .. => some false
    | .ifc .., .nif => some false
    | _, _ => none
  | _ => none
mutual
/-- '==' of rows of cells: a struct's fields one by one. -/
def eqT : Nat → Nat → List (V T) → List (V T) → Option Bool
  | 0, _, _, _ => none
  | d + 1, t, xs, ys => match E.ty t with
    | .struct fs => eqF d fs xs ys
    | .int k => match xs, ys with
      | [x], [y] => eqLeaf (.int k) x y
      | _, _ => none
    | .bool => match xs, ys with
      | [x], [y] => eqLeaf .bool x y
      | _, _ => none
    | .str => match xs, ys with
      | [x], [y] => eqLeaf .str x y
      | _, _ => none
    | _ => none
def eqF : Nat → List (Nat × Nat) → List (V T) → List (V T) → Option Bool
  | _, [], _, _ => some true
  | 0, _ :: _, _, _ => none
  | d + 1, (u, o) :: fs, xs, ys => match Nat.ble (o + E.size u) xs.length && Nat.ble (o + E.size u) ys.length with
    | true => match eqT d u ((xs.drop o).take (E.size u)) ((ys.drop o).take (E.size u)), eqF d fs xs ys with
      | some a, some b => some (a && b)
      | _, _ => none
    | false => none
end
def eqW (t : Nat) (x y : V T) : Option Bool :=
  match x, y with
  | .agg xs, .agg ys => match (E.ty t).agg with
    | true => eqT E 100 t xs ys
    | false => none
  | x, y => eqLeaf (E.ty t) x y
end

/-- What an operation asks of the store. -/
inductive Ask {K : Type} (T : K → Type) : Type where
  | val (v : V T)
  | need (b : Bool) (v : V T)
  | rd (i : Nat) (k : Ob T → Option (Bool × V T))
  | wr (i : Nat) (k : Ob T → Option (Bool × Ob T × Option (V T)))
  | new (b : Bool) (o : Ob T) (mk : Nat → V T)
  | fork (b : Bool) (v u : V T)         -- v only where b; u always
  | call (f : Nat) (args : List (V T))

def lookupT (kt et : K) (E : Env T) : List (T kt × T et) → T kt → Option (T et)
  | [], _ => none
  | p :: ps, k => bif E.eqb kt k p.1 then some p.2 else lookupT kt et E ps k
def updT (kt et : K) (E : Env T) : List (T kt × T et) → T kt → T et → List (T kt × T et)
  | [], k, v => [(k, v)]
  | p :: ps, k, v => bif E.eqb kt k p.1 then (k, v) :: ps else p :: updT kt et E ps k v

def ints (k k' : IntKind) (a : Ask T) : Option (Ask T) :=
  match k == k' with
  | true => some a
  | false => none
def unsure (t : Ty K) (x y : V T) : Option Bool :=
  match t, x, y with
  | .slice _, .sl _ xs .no, .nsl => some xs.isEmpty
  | .slice _, .nsl, .sl _ xs .no => some xs.isEmpty
  | _, _, _ => none
def binV (E : Env T) (t : Nat) (op : BinOp) (x y : V T) : Option (Ask T) :=
  match op with
  | .eql => match unsure (E.ty t) x y with
    | some b => some (.fork b (.bool true) (.bool false))
    | none => (eqW E t x y).map fun b => .val (.bool b)
  | .neq => match unsure (E.ty t) x y with
    | some b => some (.fork b (.bool false) (.bool true))
    | none => (eqW E t x y).map fun b => .val (.bool !b)
  | op => match x, y with
    | .int k a, .int k' b => match op with
      | .add => ints k k' (.val (.int k (k.wrap (a + b))))
      | .sub => ints k k' (.val (.int k (k.wrap (a - b))))
      | .mul => ints k k' (.val (.int k (k.wrap (a * b))))
      | .quo => ints k k' (.need (!(b == 0)) (.int k (k.wrap (a.tdiv b))))
      | .rem => ints k k' (.need (!(b == 0)) (.int k (a.tmod b)))
      | .and => ints k k' (.val (.int k (k.wrap (BitVec.ofInt k.bits a &&& BitVec.ofInt k.bits b).toNat)))
      | .or => ints k k' (.val (.int k (k.wrap (BitVec.ofInt k.bits a ||| BitVec.ofInt k.bits b).toNat)))
      | .xor => ints k k' (.val (.int k (k.wrap (BitVec.ofInt k.bits a ^^^ BitVec.ofInt k.bits b).toNat)))
      | .andNot => ints k k' (.val (.int k (k.wrap (BitVec.ofInt k.bits a &&& ~~~ BitVec.ofInt k.bits b).toNat)))
      | .shl => some (.need (decide (0 ≤ b)) (.int k (k.wrap (a * 2 ^ min b.toNat k.bits))))
      | .shr => some (.need (decide (0 ≤ b)) (.int k (a.fdiv (2 ^ min b.toNat k.bits))))
      | .lss => ints k k' (.val (.bool (decide (a < b))))
      | .leq => ints k k' (.val (.bool (decide (a ≤ b))))
      | .gtr => ints k k' (.val (.bool (decide (b < a))))
      | .geq => ints k k' (.val (.bool (decide (b ≤ a))))
      | _ => none
    | .str a, .str b => match op with
      | .add => some (.need (decide (a.length + b.length ≤ 9223372036854775807)) (.str (a ++ b)))
      | .lss => some (.val (.bool (Go.Op.bytesLess a b)))
      | .leq => some (.val (.bool (Go.Op.bytesLess a b || a == b)))
      | .gtr => some (.val (.bool (!(Go.Op.bytesLess a b || a == b))))
      | .geq => some (.val (.bool (!Go.Op.bytesLess a b)))
      | _ => none
    | _, _ => none

def unV (op : UnOp) (x : V T) : Option (V T) :=
  match op, x with
  | .neg, .int k n => some (.int k (k.wrap (0 - n)))
  | .not, .bool b => some (.bool !b)
  | _, _ => none

section
variable (E : Env T)
def cutN (n : Nat) (cs : List (V T)) : Option (V T) :=
  match Nat.ble n cs.length && Nat.blt 0 n with
  | true => some (.agg (cs.take n))
  | false => none
/-- The cells of type t at the head of these. -/
def cut (t : Nat) (cs : List (V T)) : Option (V T) :=
  match E.ty t with
  | .struct _ => cutN (E.size t) cs
  | .array _ _ => cutN (E.size t) cs
  | .other => none
  | _ => cs.head?
def loadBox (t off : Nat) : Ob T → Option (Bool × V T)
  | .box _ cs => match cut E t (cs.drop off) with
    | some v => some (true, v)
    | none => none
  | _ => none
def loadElt (t j off : Nat) : Ob T → Option (Bool × V T)
  | .arr e xs => match cut E t ((E.enc e (xs.getD j (E.dflt e))).drop off) with
    | some v => some (true, v)
    | none => none
  | .fro e xs => match cut E t ((E.enc e (xs.getD j (E.dflt e))).drop off) with
    | some v => some (true, v)
    | none => none
  | _ => none
def loadV (t : Nat) (v : V T) : Option (Ask T) :=
  match v with
  | .adr cs => (cut E t cs).map .val
  | .ptr i off => some (.rd i (loadBox E t off))
  | .elt i j off => some (.rd i (loadElt E t j off))
  | _ => none
def V.leaf : V T → Bool
  | .agg _ => false
  | .tup _ => false
  | .und => false
  | _ => true
def leaves : List (V T) → Bool
  | [] => true
  | v :: vs => v.leaf && leaves vs
def splice (cs : List (V T)) (off : Nat) (us : List (V T)) : Option (List (V T)) :=
  match Nat.ble (off + us.length) cs.length with
  | true => some (cs.take off ++ us ++ cs.drop (off + us.length))
  | false => none

/-- The slices in it lose their right. -/
def V.plain : V T → V T
  | .sl e xs _ => .sl e xs .no
  | .agg cs => .agg (plains cs)
  | .tup cs => .tup (plains cs)
  | v => v
where plains : List (V T) → List (V T)
  | [] => []
  | v :: vs => v.plain :: plains vs

def storeBox (off : Nat) (us : List (V T)) : Ob T → Option (Bool × Ob T × Option (V T))
  | .box b cs => match splice cs off us with
    | some cs => some (true, .box b cs, none)
    | none => none
  | _ => none
def storeElt (j off : Nat) (us : List (V T)) : Ob T → Option (Bool × Ob T × Option (V T))
  | .arr e xs => match splice (E.enc e (xs.getD j (E.dflt e))) off us with
    | some cs => match E.dec e cs with
      | some z => some (true, .arr e (xs.set j z), none)
      | none => none
    | none => none
  | _ => none
def Ty.known : Ty K → Bool
  | .other => false
  | _ => true
def storeV (t : Nat) (a x : V T) : Option (Ask T) :=
  match leaves x.cells && Nat.beq x.cells.length (E.size t) && (E.ty t).known with
  | false => none
  | true => match a with
    | .ptr i off => some (.wr i (storeBox off x.cells))
    | .elt i j off => some (.wr i (storeElt E j off x.cells))
    | _ => none
def intOf : V T → Option Int
  | .int _ x => some x
  | _ => none
def maxI (a b : Int) : Int := if b > a then b else a
def minI (a b : Int) : Int := if b < a then b else a
def listOf (e : K) : V T → Option (List (T e))
  | .sl e' ys _ => match decEq e' e with
    | .isTrue h => some (h ▸ ys)
    | .isFalse _ => none
  | .nsl => some []
  | _ => none

def lenArr : Ob T → Option (Bool × V T)
  | .arr _ xs => some (true, .int .i64 xs.length)
  | .fro _ xs => some (true, .int .i64 xs.length)
  | _ => none
def lenMap : Ob T → Option (Bool × V T)
  | .map _ _ ents => some (true, .int .i64 ents.length)
  | _ => none
def lenV (t : Ty K) (x : V T) : Option (Ask T) :=
  match t, x with
  | .str, .str s => some (.val (.int .i64 s.length))
  | .slice _, .sl _ xs _ => some (.val (.int .i64 xs.length))
  | .slice _, .asl i => some (.rd i lenArr)
  | .map _ _, .map i => some (.rd i lenMap)
  | .map _ _, .nmp => some (.val (.int .i64 0))
  | _, _ => none
def fits (e : K) (xs ys : List (T e)) : Bool := decide ((xs.length + ys.length) * E.bytes e ≤ 140737488355328)
def appTok (e : K) (xs ys : List (T e)) (i ver : Nat) : Ob T → Option (Bool × Ob T × Option (V T))
  | .vec e' ver' => match Nat.beq ver ver' && decide (e = e') with
    | true => some (fits E e xs ys, .vec e (ver + 1), some (.sl e (xs ++ ys) (.tok i (ver + 1))))
    | false => none
  | _ => none
def appendV (e0 e1 : K) (s x : V T) : Option (Ask T) :=
  match s with
  | .sl e xs o => match listOf e x, decide (e = e0) && decide (e = e1) with
    | some ys, true => match o with
      | .nil => some (.new (fits E e xs ys) (.vec e 0) fun i => .sl e (xs ++ ys) (.tok i 0))
      | .full => some (.new (fits E e xs ys) (.vec e 0) fun i => .sl e (xs ++ ys) (.tok i 0))
      | .tok i ver => some (.wr i (appTok E e xs ys i ver))
      | .no => none
    | _, _ => none
  | _ => none
def max2 (x y : V T) : Option (V T) :=
  match x, y with
  | .int k a, .int _ b => some (.int k (maxI a b))
  | _, _ => none
def min2 (x y : V T) : Option (V T) :=
  match x, y with
  | .int k a, .int _ b => some (.int k (minI a b))
  | _, _ => none
def foldV (f : V T → V T → Option (V T)) (x : V T) : List (V T) → Option (V T)
  | [] => some x
  | y :: ys => match f x y with
    | some z => foldV f z ys
    | none => none
def builtinV (b : Builtin) (ts : List Nat) (args : List (V T)) : Option (Ask T) :=
  match b, ts, args with
  | .len, [t], [x] => lenV (E.ty t) x
  | .max, _, x :: xs => (foldV max2 x xs).map .val
  | .min, _, x :: xs => (foldV min2 x xs).map .val
  | .append, [t, u], [s, x] => match E.ty t, E.ty u with
    | .slice e0, .slice e1 => appendV E e0 e1 s x
    | _, _ => none
  | _, _, _ => none

def fillC (place : Nat → Option (Nat × Nat)) (cells : List (V T)) : List (Nat × V T) → Option (List (V T))
  | [] => some cells
  | (i, v) :: ps => match place i with
    | none => none
    | some (off, n) => match Nat.beq v.cells.length n with
      | true => (splice cells off v.cells).bind fun cells => fillC place cells ps
      | false => none
def partsV (fr : Fr T) (ft : Nat → Nat) : List (Nat × Operand) → Option (List (Nat × V T))
  | [] => some []
  | (i, x) :: ps => match evalO fr x, partsV fr ft ps with
    | some v, some vs => some ((i, coerce E (ft i) v) :: vs)
    | _, _ => none
def fieldAt (fs : List (Nat × Nat)) (f : Nat) : Option (Nat × Nat) := fs[f]?
def argsV (fr : Fr T) : List Operand → List Nat → Option (List (V T))
  | [], _ => some []
  | x :: xs, t :: ts => match evalO fr x, argsV fr xs ts with
    | some v, some vs => some (coerce E t v :: vs)
    | _, _ => none
  | x :: xs, [] => match evalO fr x, argsV fr xs [] with
    | some v, some vs => some (v :: vs)
    | _, _ => none
def evals (fr : Fr T) : List Operand → Option (List (V T))
  | [] => some []
  | x :: xs => match evalO fr x, evals fr xs with
    | some v, some vs => some (v :: vs)
    | _, _ => none
def bound (fr : Fr T) (d : Int) : Option Operand → Option Int
  | none => some d
  | some x => (evalO fr x).bind intOf
def pickV (c : Bool) : V T → V T → Option (V T)
  | .bool a, .bool b => some (.bool (bif c then a else b))
  | .int k a, .int k' b => match k == k' with
    | true => some (.int k (bif c then a else b))
    | false => none
  | .str a, .str b => some (.str (bif c then a else b))
  | _, _ => none

def moveA (fr : Fr T) (o : Oper) (x : Operand) : Option (Ask T) :=
  (evalO fr x).map fun v => .val (coerce E o.type v)
def pickA (fr : Fr T) (o : Oper) (c a b : Operand) : Option (Ask T) :=
  match evalO fr c, evalO fr a, evalO fr b with
  | some (.bool c), some x, some y => match x, y with
    | .und, y => some (.need (!c) (coerce E o.type y))
    | x, .und => some (.need c (coerce E o.type x))
    | x, y => (pickV c (coerce E o.type x) (coerce E o.type y)).map .val
  | _, _, _ => none
def allocA (fr : Fr T) (o : Oper) (t : Nat) : Option (Ask T) :=
  (zeroC E t).map fun z => .new true (.box t z) fun i => .ptr i 0
def boxA (fr : Fr T) (o : Oper) (t : Nat) (x : Operand) : Option (Ask T) :=
  match evalO fr x with
  | some v => match leaves (coerce E t v).cells with
    | true => some (.new true (.box t (coerce E t v).cells) fun i => .ptr i 0)
    | false => none
  | none => none
def aggL (cs : List (V T)) : Option (Ask T) :=
  match leaves cs with
  | true => some (.val (.agg cs))
  | false => none
def buildA (fr : Fr T) (o : Oper) (t : Nat) (parts : Array (Nat × Operand)) : Option (Ask T) :=
  match E.ty t with
    | .struct fs => match zeroC E t, partsV E fr (fun i => (fs.getD i (0, 0)).1) parts.toList with
      | some zs, some ps => (fillC (fun i => (fieldAt fs i).map fun p => (p.2, E.size p.1)) zs ps).bind aggL
      | _, _ => none
    | .array n e => match zeroC E t, partsV E fr (fun _ => e) parts.toList with
      | some zs, some ps => (fillC (fun i => some (i * E.size e, E.size e)) zs ps).bind aggL
      | _, _ => none
    | _ => none
def zeroT (e : K) : Option (T e) := (zeroC E (E.num e)).bind (E.dec e)
def setsT (e : K) (xs : List (T e)) : List (Nat × V T) → Option (List (T e))
  | [] => some xs
  | (i, v) :: ps => match Nat.blt i xs.length, E.dec e v.cells with
    | true, some y => setsT e (xs.set i y) ps
    | _, _ => none
def buildSliceA (fr : Fr T) (o : Oper) (t len : Nat) (parts : Array (Nat × Operand)) : Option (Ask T) :=
  match E.ty t with
  | .slice e => match zeroT E e, partsV E fr (fun _ => E.num e) parts.toList, Nat.ble (len * E.size (E.num e)) 16777216 with
    | some z, some ps, true => match setsT E e (List.replicate len z) ps with
      | some xs => some (.val (.sl e xs .full))
      | none => none
    | _, _, _ => none
  | _ => none
def loadA (fr : Fr T) (o : Oper) (t : Nat) (a : Operand) : Option (Ask T) :=
  match globA E a with
  | some v => loadV E t v
  | none => (evalO fr a).bind (loadV E t)
def storeA (fr : Fr T) (o : Oper) (t : Nat) (a x : Operand) : Option (Ask T) :=
  match evalO fr a, evalO fr x with
    | some a, some x => storeV E t a (coerce E t x)
    | _, _ => none
def nilCheckA (fr : Fr T) (o : Oper) (x : Operand) : Option (Ask T) :=
  match evalO fr x with
    | some (.ptr i o) => some (.val (.ptr i o))
    | some (.adr v) => some (.val (.adr v))
    | some (.elt i j p) => some (.val (.elt i j p))
    | some (.fn f a c) => some (.val (.fn f a c))
    | _ => none
def binOpA (fr : Fr T) (o : Oper) (op : BinOp) (t : Nat) (x y : Operand) (u : Nat) : Option (Ask T) :=
  match evalO fr x, evalO fr y with
    | some a, some b => binV E t op a b
    | _, _ => none
def unOpA (fr : Fr T) (o : Oper) (op : UnOp) (x : Operand) : Option (Ask T) :=
  match evalO fr x with
    | some a => (unV op a).map .val
    | none => none
def convertA (fr : Fr T) (o : Oper) (src dst : Nat) (x : Operand) : Option (Ask T) :=
  match E.ty src, E.ty dst, evalO fr x with
    | .int _, .int k, some (.int _ n) => some (.val (.int k (k.wrap n)))
    | .str, .str, some (.str s) => some (.val (.str s))
    | _, _, _ => none
def makeFuncA (fr : Fr T) (o : Oper) (f : Nat) (first captured : Array Operand) : Option (Ask T) :=
  match evals fr first.toList, evals fr captured.toList with
    | some a, some c => some (.val (.fn f a c))
    | _, _ => none
def makeMapA (fr : Fr T) (o : Oper) (t : Nat) (r : Option Operand) : Option (Ask T) :=
  match E.ty t with
  | .map k e => match r with
    | none => some (.new true (.map k e []) fun i => .map i)
    | some x => match evalO fr x with
      | some (.int _ _) => some (.new true (.map k e []) fun i => .map i)
      | _ => none
  | _ => none
def isZero : Operand → Bool
  | .const (.int _ 0) => true
  | _ => false
def roomFor (e : K) (m : Int) : Bool := decide (0 ≤ m) && decide (m * (E.bytes e : Int) ≤ 140737488355328) && decide (m ≤ 9223372036854775807)
def makeSliceA (fr : Fr T) (o : Oper) (t : Nat) (l c : Operand) : Option (Ask T) :=
  match E.ty t, evalO fr l, evalO fr c with
  | .slice e, some (.int _ n), some (.int _ m) => match isZero l with
    | true => some (.new (roomFor E e m) (.vec e 0) fun i => .sl e [] (.tok i 0))
    | false => match zeroT E e with
      | some z => some (.new (decide (n = m) && roomFor E e n) (.arr e (List.replicate n.toNat z)) fun i => .asl i)
      | none => none
  | _, _, _ => none
def sliceA (fr : Fr T) (o : Oper) (t : Nat) (x : Operand) (lo hi mx : Option Operand) : Option (Ask T) :=
  match E.ty t, evalO fr x, mx with
  | .str, some (.str s), none => match bound fr 0 lo, bound fr (s.length : Int) hi with
    | some l, some h => some (.need (decide (0 ≤ l) && decide (l ≤ h) && decide (h ≤ (s.length : Int))) (.str ((s.take h.toNat).drop l.toNat)))
    | _, _ => none
  | .slice e0, some (.sl e xs _), none => match bound fr 0 lo, bound fr (xs.length : Int) hi with
    | some l, some h => match decide (e = e0) with
      | false => none
      | true => some (.need (decide (0 ≤ l) && decide (l ≤ h) && decide (h ≤ (xs.length : Int))) (.sl e ((xs.take h.toNat).drop l.toNat) .no))
    | _, _ => none
  | .slice e0, some (.sl e xs _), some mx => match bound fr 0 lo, bound fr (xs.length : Int) hi, bound fr 0 (some mx) with
    | some l, some h, some m => match decide (e = e0) && hi.isSome with
      | false => none
      | true => some (.need (decide (0 ≤ l) && decide (l ≤ h) && decide (h = m) && decide (m ≤ (xs.length : Int))) (.sl e ((xs.take h.toNat).drop l.toNat) .full))
    | _, _, _ => none
  | _, _, _ => none
def fieldAddrA (fr : Fr T) (o : Oper) (t : Nat) (x : Operand) (f : Nat) : Option (Ask T) :=
  match E.ty t with
    | .struct fs => match fieldAt fs f, evalO fr x with
      | some (_, o), some (.ptr i off) => some (.val (.ptr i (off + o)))
      | some (_, o), some (.adr cs) => some (.val (.adr (cs.drop o)))
      | some (_, o), some (.elt i j off) => some (.val (.elt i j (off + o)))
      | _, _ => none
    | _ => none
def fieldA (fr : Fr T) (o : Oper) (t : Nat) (x : Operand) (f : Nat) : Option (Ask T) :=
  match E.ty t with
    | .struct fs => match fieldAt fs f, evalO fr x with
      | some (u, o), some (.agg cs) => (cut E u (cs.drop o)).map .val
      | _, _ => none
    | _ => none
def within (i n : Int) : Bool := decide (0 ≤ i) && decide (i < n)
def eltK (e0 : K) (a : Nat) (i : Int) : Ob T → Option (Bool × V T)
  | .arr e xs => match decide (e = e0) with
    | true => some (within i (xs.length : Int), .elt a i.toNat 0)
    | false => none
  | .fro e xs => match decide (e = e0) with
    | true => some (within i (xs.length : Int), .elt a i.toNat 0)
    | false => none
  | _ => none
def indexAddrA (fr : Fr T) (o : Oper) (t : Nat) (x ix : Operand) : Option (Ask T) :=
  match E.ty t, evalO fr x, evalO fr ix with
  | .slice e0, some (.sl e xs _), some (.int _ i) => match decide (e = e0) with
    | true => some (.need (within i (xs.length : Int)) (.adr (E.enc e (xs.getD i.toNat (E.dflt e)))))
    | false => none
  | .slice e0, some (.asl a), some (.int _ i) => some (.rd a (eltK e0 a i))
  | .array n e, some (.ptr b off), some (.int _ i) => some (.need (within i (n : Int)) (.ptr b (off + i.toNat * E.size e)))
  | .array n e, some (.adr cs), some (.int _ i) => some (.need (within i (n : Int)) (.adr (cs.drop (i.toNat * E.size e))))
  | _, _, _ => none
def indexA (fr : Fr T) (o : Oper) (t : Nat) (x ix : Operand) : Option (Ask T) :=
  match E.ty t, evalO fr x, evalO fr ix with
    | .str, some (.str s), some (.int _ i) => some (.need (within i (s.length : Int)) (.int .u8 (s.getD i.toNat 0).toNat))
    | .array n e, some (.agg cs), some (.int _ i) => match cut E e (cs.drop (i.toNat * E.size e)) with
      | some v => some (.need (within i (n : Int)) v)
      | none => none
    | _, _, _ => none
/-- Is the value of the form that values of type t have? -/
def valOk (t : Nat) (v : V T) : Bool :=
  match (E.ty t).agg, v with
  | true, .agg _ => true
  | true, _ => false
  | false, .agg _ => false
  | false, _ => true
def elemOf (e : K) (k : V T) : Option (T e) :=
  match valOk E (E.num e) k with
  | true => E.dec e k.cells
  | false => none
/-- Keys are numbers, truth values, texts, and structs of these. -/
def Ty.keyed : Ty K → Bool
  | .int _ => true
  | .bool => true
  | .str => true
  | _ => false
def flat : List (Nat × Nat) → Nat → Nat → Bool
  | [], o, n => Nat.beq o n
  | (u, p) :: fs, o, n => Nat.beq p o && ((E.ty u).keyed && flat fs (o + 1) n)
def keyedT (t : Nat) : Bool :=
  match E.ty t with
  | .struct fs => flat E fs 0 (E.size t)
  | k => k.keyed
def keyOf (e : K) (k : V T) : Option (T e) :=
  match keyedT E (E.num e) with
  | true => elemOf E e k
  | false => none
def lookRes (ok there : Bool) (v : V T) : V T :=
  match ok with
  | true => .tup [v, .bool there]
  | false => v
def lookK (k0 e0 : K) (ok : Bool) (k : V T) : Ob T → Option (Bool × V T)
  | .map kt et ents => match decide (kt = k0) && decide (et = e0), keyOf E kt k, zeroT E et with
    | true, some key, some z => match ofCells E (E.num et) (E.enc et ((lookupT kt et E ents key).getD z)) with
      | some v => some (true, lookRes ok (lookupT kt et E ents key).isSome v)
      | none => none
    | _, _, _ => none
  | _ => none
def lookupA (fr : Fr T) (o : Oper) (t : Nat) (m k : Operand) (ok : Bool) : Option (Ask T) :=
  match E.ty t, evalO fr m, evalO fr k with
  | .map k0 e0, some (.map i), some k => some (.rd i (lookK E k0 e0 ok k))
  | _, _, _ => none
def updK (k0 e0 : K) (k x : V T) : Ob T → Option (Bool × Ob T × Option (V T))
  | .map kt et ents => match decide (kt = k0) && decide (et = e0), keyOf E kt k, elemOf E et x with
    | true, some key, some val => some (true, .map kt et (updT kt et E ents key val), none)
    | _, _, _ => none
  | _ => none
def mapUpdateA (fr : Fr T) (o : Oper) (t : Nat) (m k x : Operand) : Option (Ask T) :=
  match E.ty t, evalO fr m, evalO fr k, evalO fr x with
  | .map k0 e0, some (.map i), some k, some x => some (.wr i (updK E k0 e0 k (coerce E (E.num e0) x)))
  | _, _, _, _ => none
def entK (k0 e0 : K) (i : Nat) (k : V T) : Ob T → Option (Bool × Ob T × Option (V T))
  | .map kt et ents => match decide (kt = k0) && decide (et = e0), keyOf E kt k, zeroT E et with
    | true, some key, some z => match ofCells E (E.num et) (E.enc et ((lookupT kt et E ents key).getD z)) with
      | some v => some (true, .map kt et (updT kt et E ents key ((lookupT kt et E ents key).getD z)), some (.tup [v, .stamp i k]))
      | none => none
    | _, _, _ => none
  | _ => none
def mapEntryA (fr : Fr T) (o : Oper) (t : Nat) (m k : Operand) : Option (Ask T) :=
  match E.ty t, evalO fr m, evalO fr k with
  | .map k0 e0, some (.map i), some k => some (.wr i (entK E k0 e0 i k))
  | _, _, _ => none
def entryStoreA (fr : Fr T) (o : Oper) (t : Nat) (m s x : Operand) : Option (Ask T) :=
  match E.ty t, evalO fr m, evalO fr s, evalO fr x with
  | .map k0 e0, some (.map i), some (.stamp j k), some x => match Nat.beq i j with
    | true => some (.wr i (updK E k0 e0 k (coerce E (E.num e0) x)))
    | false => none
  | _, _, _, _ => none
def rangeA (fr : Fr T) (o : Oper) (t : Nat) (x : Operand) : Option (Ask T) :=
  match E.ty t, evalO fr x with
  | .str, some (.str s) => some (.new true (.iter s 0) fun i => .itr i)
  | _, _ => none
def nextK : Ob T → Option (Bool × Ob T × Option (V T))
  | .iter s pos => match Nat.ble (pos + 1) s.length with
    | true => some (true, .iter s (pos + (Utf8.decode ⟨⟨s⟩⟩ pos).2), some (.tup [.bool true, .int .i64 pos, .int .i32 (Utf8.decode ⟨⟨s⟩⟩ pos).1]))
    | false => some (true, .iter s pos, some (.tup [.bool false]))
  | _ => none
def nextA (fr : Fr T) (o : Oper) (x : Operand) : Option (Ask T) :=
  match evalO fr x with
  | some (.itr i) => some (.wr i nextK)
  | _ => none
def extractA (fr : Fr T) (o : Oper) (x : Operand) (j : Nat) : Option (Ask T) :=
  match evalO fr x with
    | some (.tup vs) => match vs[j]? with
      | some v => some (.val v)
      | none => none
    | _ => none
def callA (fr : Fr T) (o : Oper) (c : Call) : Option (Ask T) :=
  match c.callee with
    | .builtin b => (argsV E fr c.args.toList c.argTypes.toList).bind fun args => builtinV E b c.argTypes.toList args
    | .value f => match evalO fr f, argsV E fr c.args.toList c.argTypes.toList with
      | some (.fn f first caps), some args => some (.call f (first ++ args ++ caps))
      | _, _ => none
    | _ => none

def opAct (fr : Fr T) (o : Oper) : Option (Ask T) :=
  match o.op with
  | .move x | .assign x => moveA E fr o x
  | .pick c a b => pickA E fr o c a b
  | .alloc t => allocA E fr o t
  | .box t x => boxA E fr o t x
  | .build t parts => buildA E fr o t parts
  | .buildSlice t len parts => buildSliceA E fr o t len parts
  | .load t a => loadA E fr o t a
  | .store t a x => storeA E fr o t a x
  | .nilCheck x => nilCheckA fr o x
  | .binOp op t x y u => binOpA E fr o op t x y u
  | .unOp op _ x => unOpA fr o op x
  | .convert src dst x => convertA E fr o src dst x
  | .makeFunc (.func f) first captured => makeFuncA fr o f first captured
  | .makeMap t r => makeMapA E fr o t r
  | .makeSlice t l c => makeSliceA E fr o t l c
  | .slice t x lo hi mx => sliceA E fr o t x lo hi mx
  | .fieldAddr t x f => fieldAddrA E fr o t x f
  | .field t x f => fieldA E fr o t x f
  | .indexAddr t x ix => indexAddrA E fr o t x ix
  | .index t x ix => indexA E fr o t x ix
  | .lookup t m k ok => lookupA E fr o t m k ok
  | .mapUpdate t m k x => mapUpdateA E fr o t m k x
  | .mapEntry t m k => mapEntryA E fr o t m k
  | .entryStore t m s x => entryStoreA E fr o t m s x
  | .range t x => rangeA E fr o t x
  | .next x true => nextA fr o x
  | .extract x j => extractA fr o x j
  | .call c => callA E fr o c
  | _ => none
end

/-- What an operation has looked at and changed, in a region whose order is drawn. -/
structure Foot where
  kind : Nat
  idx : Nat
  dst : Option Nat
  looks : List Nat
  rd : List Nat
  wr : List Nat

/-- A loop over a function that slices.Backward returned. -/
structure Rnd {K : Type} (T : K → Type) where
  e : K
  cap : V T                             -- where the list lies
  p : Nat                               -- the loop's variables
  q : Nat
  assign : Code
  body : Code
/-- What stands ahead. -/
inductive Item {K : Type} (T : K → Type) where
  | code (c : Code)
  | reg (id : Nat) (ops : Array Oper) (draw : Bool)
  | inBlock (id : Nat)
  | inLoop (body : Code) (slots : Option (List Nat))
  | ops (all : Array Oper) (rest : List Oper)
  | on (all : Array Oper) (o : Oper) (rest : List Oper)
  | dops (all : Array Oper) (rest : List Oper) (i base : Nat) (foot : List Foot)
  | don (all : Array Oper) (o : Oper) (rest : List Oper) (i base : Nat) (foot : List Foot)
  | rounds (r : Rnd T) (i : Nat)        -- i elements are still to come
  | head (r : Rnd T) (i : Nat)
  | rin (r : Rnd T) (i : Nat)
  | begin
  | rend (r : Rnd T) (fr : Fr T) (i : Nat)

structure Cfg {K : Type} (T : K → Type) where
  todo : List (Item T)
  fr : Fr T
  st : List (Ob T)
  fn : Nat
  keep : Nat                            -- how many objects came in
  n : Nat                               -- how many slots there are
  res : List ResultVar

inductive Nx {K : Type} (T : K → Type) : Type where
  | go (c : Cfg T)
  | need (b : Bool) (c : Cfg T)
  | br (b : Bool) (c d : Cfg T)
  | fork (b : Bool) (c d : Cfg T)
  | call (f : Nat) (args : List (V T)) (obs : List (Ob T)) (k : V T → List (Ob T) → Cfg T)
  | ret (v : V T) (st : List (Ob T))
  | cut (c : Cfg T)
  | stuck

def Fr.put (fr : Fr T) (d : Option Nat) (v : V T) : Fr T :=
  match d with
  | some d => (d, some v) :: fr
  | none => fr
def Fr.drop (fr : Fr T) (d : Option Nat) : Fr T :=
  match d with
  | some d => (d, some .und) :: fr
  | none => fr
def has (t : Nat) : List Nat → Bool
  | [] => false
  | s :: ss => match Nat.beq s t with
    | true => true
    | false => has t ss
def slotsOf (acc : List Nat) : Fr T → List Nat
  | [] => acc
  | (t, _) :: fr => match has t acc with
    | true => slotsOf acc fr
    | false => slotsOf (t :: acc) fr
def prune (fr : Fr T) : List Nat → Fr T
  | [] => []
  | t :: ts => match Fr.get fr t with
    | some v => (t, some v) :: prune fr ts
    | none => prune fr ts
def exitTo (id : Nat) : List (Item T) → Option (List (Item T))
  | [] => none
  | .inBlock j :: k => match Nat.beq j id with
    | true => some k
    | false => exitTo id k
  | .begin :: _ => none
  | .rend .. :: _ => none
  | _ :: k => exitTo id k
/-- In whose frame these stand. -/
inductive Zk {K : Type} (T : K → Type) where
  | top | pre
  | rnd (r : Rnd T) (fr : Fr T) (i : Nat) (k : List (Item T))
def zoneOf : List (Item T) → Zk T
  | [] => .top
  | .begin :: _ => .pre
  | .rend r fr i :: k => .rnd r fr i k
  | _ :: k => zoneOf k

/-! Objects are named anew: 'ids' lists the objects that stay, in their new order. -/
def place (ids : List Nat) (i : Nat) : Option Nat :=
  match ids with
  | [] => none
  | j :: js => match Nat.beq j i with
    | true => some 0
    | false => match place js i with
      | some k => some (k + 1)
      | none => none
/-- The objects that a value leads to, put behind those that are known. -/
def addTo (acc : List Nat) (i : Nat) : List Nat := match has i acc with
  | true => acc
  | false => acc ++ [i]
def V.uses (acc : List Nat) : V T → List Nat
  | .sl _ _ (.tok i _) => addTo acc i
  | .agg cs => usess acc cs
  | .ptr i _ => addTo acc i
  | .asl i => addTo acc i
  | .elt i _ _ => addTo acc i
  | .map i => addTo acc i
  | .itr i => addTo acc i
  | .fn _ a c => usess (usess acc a) c
  | .ifc _ v => v.uses acc
  | .tup vs => usess acc vs
  | .stamp i k => k.uses (addTo acc i)
  | _ => acc
where usess (acc : List Nat) : List (V T) → List Nat
  | [] => acc
  | v :: vs => usess (v.uses acc) vs
def Ob.uses (acc : List Nat) : Ob T → List Nat
  | .box _ cs => V.uses.usess acc cs
  | _ => acc
def reach (st : List (Ob T)) : Nat → List Nat → List Nat → List Nat
  | 0, _, acc => acc
  | n + 1, todo, acc => match todo with
    | [] => acc
    | i :: todo => match st[i]? with
      | some ob =>
        let acc' := ob.uses acc
        reach st n (todo ++ acc'.drop acc.length) acc'
      | none => reach st n todo acc
/-- All that can be reached from these. -/
def closure (st : List (Ob T)) (acc : List Nat) : List Nat := reach st 4096 acc acc

/-- Each object i becomes f i; its count of changes grows by h i. -/
def Own.ren (f : Nat → Option Nat) (h : Nat → Nat) : Own → Own
  | .tok i ver => match f i with
    | some j => .tok j (h i + ver)
    | none => .no
  | o => o
def V.ren (f : Nat → Option Nat) (h : Nat → Nat) : V T → Option (V T)
  | .sl e xs o => some (.sl e xs (o.ren f h))
  | .agg cs => match rens f h cs with
    | some cs => some (.agg cs)
    | none => none
  | .ptr i off => match f i with
    | some i => some (.ptr i off)
    | none => none
  | .asl i => match f i with
    | some i => some (.asl i)
    | none => none
  | .elt i j off => match f i with
    | some i => some (.elt i j off)
    | none => none
  | .map i => match f i with
    | some i => some (.map i)
    | none => none
  | .itr i => match f i with
    | some i => some (.itr i)
    | none => none
  | .fn g a c => match rens f h a, rens f h c with
    | some a, some c => some (.fn g a c)
    | _, _ => none
  | .ifc t v => match v.ren f h with
    | some v => some (.ifc t v)
    | none => none
  | .tup vs => match rens f h vs with
    | some vs => some (.tup vs)
    | none => none
  | .stamp i k => match f i, k.ren f h with
    | some i, some k => some (.stamp i k)
    | _, _ => none
  | v => some v
where rens (f : Nat → Option Nat) (h : Nat → Nat) : List (V T) → Option (List (V T))
  | [] => some []
  | v :: vs => match v.ren f h, rens f h vs with
    | some v, some vs => some (v :: vs)
    | _, _ => none
/-- Object i's content. -/
def Ob.ren (f : Nat → Option Nat) (h : Nat → Nat) (i : Nat) : Ob T → Option (Ob T)
  | .box t cs => match V.ren.rens f h cs with
    | some cs => some (.box t cs)
    | none => none
  | .vec e ver => some (.vec e (h i + ver))
  | .dead => none
  | o => some o
def obsAt (st : List (Ob T)) (f : Nat → Option Nat) (h : Nat → Nat) : List Nat → Option (List (Ob T))
  | [] => some []
  | i :: is => match st[i]?, obsAt st f h is with
    | some o, some os => match o.ren f h i with
      | some o => some (o :: os)
      | none => none
    | _, _ => none
def noH : Nat → Nat := fun _ => 0

/-! The counts of changes begin at 0 again; a slice that no longer has the right loses it. -/
def vers0 (st : List (Ob T)) : V T → V T
  | .sl e xs (.tok i ver) => match st[i]? with
    | some (.vec _ ver') => match Nat.beq ver ver' with
      | true => .sl e xs (.tok i 0)
      | false => .sl e xs .no
    | _ => .sl e xs .no
  | .agg cs => .agg (vers0s st cs)
  | .fn f a c => .fn f (vers0s st a) (vers0s st c)
  | .ifc t v => .ifc t (vers0 st v)
  | .tup vs => .tup (vers0s st vs)
  | .stamp i k => .stamp i (vers0 st k)
  | v => v
where vers0s (st : List (Ob T)) : List (V T) → List (V T)
  | [] => []
  | v :: vs => vers0 st v :: vers0s st vs
def Ob.vers0 (st : List (Ob T)) : Ob T → Ob T
  | .box t cs => .box t (AI.vers0.vers0s st cs)
  | .vec e _ => .vec e 0
  | o => o
def obs0 (st : List (Ob T)) : List (Ob T) → List (Ob T)
  | [] => []
  | o :: os => o.vers0 st :: obs0 st os

/-- Values and all that they lead to, named anew; the first 'keep' objects stay where they are. -/
def pack (st : List (Ob T)) (keep : Nat) (vs : List (V T)) : Option (List Nat × List (V T) × List (Ob T)) :=
  let ids := closure st (V.uses.usess (List.range keep) vs)
  match V.ren.rens (place ids) noH (vers0.vers0s st vs), obsAt (obs0 st st) (place ids) noH ids with
  | some vs, some obs => some (ids, vs, obs)
  | _, _ => none

/-- Lists that are nil or full have an object each from here on. -/
def grow (st : List (Ob T)) : V T → V T × List (Ob T)
  | .sl e xs .nil => (.sl e xs (.tok st.length 0), st ++ [.vec e 0])
  | .sl e xs .full => (.sl e xs (.tok st.length 0), st ++ [.vec e 0])
  | .agg cs => match grows st cs with
    | (cs, st) => (.agg cs, st)
  | v => (v, st)
where grows (st : List (Ob T)) : List (V T) → List (V T) × List (Ob T)
  | [] => ([], st)
  | v :: vs => match grow st v with
    | (v, st) => match grows st vs with
      | (vs, st) => (v :: vs, st)
def growSt (n : Nat) (i : Nat) (st : List (Ob T)) : List (Ob T) :=
  match n with
  | 0 => st
  | n + 1 => match st[i]? with
    | some (.box t cs) => match grow.grows st cs with
      | (cs, st) => growSt n (i + 1) (st.set i (.box t cs))
    | _ => growSt n (i + 1) st

section
variable (E : Env T)

/-- An owned array becomes a list that no one changes. -/
def thaw (st : List (Ob T)) : V T → Option (V T × List (Ob T))
  | .asl i => match st[i]? with
    | some (.arr e xs) => some (.sl e xs .no, st.set i (.fro e xs))
    | some (.fro e xs) => some (.sl e xs .no, st)
    | _ => none
  | v => some (v, st)
/-- The arguments as the callee gets them: lists without rights, but where it wants them. -/
def handOver (st : List (Ob T)) : List Bool → List (V T) → Option (List (V T) × List (Ob T))
  | _, [] => some ([], st)
  | true :: bs, v :: vs => match handOver st bs vs with
    | some (vs, st) => some (v :: vs, st)
    | none => none
  | bs, v :: vs => match thaw st v with
    | some (v, st) => match handOver st bs.tail vs with
      | some (vs, st) => some (v.plain :: vs, st)
      | none => none
    | none => none

def putAll : List Nat → List (Ob T) → List (Ob T) → List (Ob T)
  | i :: is, o :: os, st => putAll is os (st.set i o)
  | _, _, st => st
def verOf (st : List (Ob T)) (ids : List Nat) (j : Nat) : Nat :=
  match ids[j]? with
  | some i => match st[i]? with
    | some (.vec _ ver) => ver + 1
    | _ => 0
  | none => 0
def backTo (base : Nat) (ids : List Nat) (j : Nat) : Option Nat :=
  match ids[j]? with
  | some i => some i
  | none => some (base + (j - ids.length))
/-- What a call leaves: the value and the objects, by the caller's names. -/
def after (st : List (Ob T)) (base : Nat) (ids : List Nat) (v : V T) (obs : List (Ob T)) : Option (V T × List (Ob T)) :=
  match v.ren (backTo base ids) (verOf st ids), obsAt obs (backTo base ids) (verOf st ids) (List.range obs.length) with
  | some v, some obs => some (v, obs)
  | _, _ => none
def merge (ids : List Nat) (obs st : List (Ob T)) : List (Ob T) :=
  match obs with
  | [] => st
  | o :: os => putAll ids (o :: os) st ++ (o :: os).drop ids.length
def callOf (c : Cfg T) (f : Nat) (args : List (V T)) (dst : Option Nat) : Nx T :=
  match handOver c.st (E.own f) args with
  | none => .stuck
  | some (args, st) => match pack st 0 args with
    | none => .stuck
    | some (ids, args, obs) => .call f args obs fun v obs => match after st st.length ids v obs with
      | some (v, obs) => { c with fr := c.fr.put dst v, st := merge ids obs st }
      | none => { c with todo := [] }

def resultV (fr : Fr T) (st : List (Ob T)) : List ResultVar → Option (List (V T))
  | [] => some []
  | .tmp t :: rs => match Fr.get fr t, resultV fr st rs with
    | some v, some vs => some (v :: vs)
    | _, _ => none
  | .cell a t :: rs => match Fr.get fr a, resultV fr st rs with
    | some (.ptr i off), some vs => match st[i]? with
      | some (.box _ cs) => match cut E t (cs.drop off) with
        | some u => some (u :: vs)
        | none => none
      | _ => none
    | _, _ => none

def performRd (c : Cfg T) (o : Oper) : Option (Bool × V T) → Nx T
  | some (b, v) => .need b { c with fr := c.fr.put o.dst v }
  | none => .stuck
def performWr (c : Cfg T) (o : Oper) (i : Nat) : Option (Bool × Ob T × Option (V T)) → Nx T
  | some (b, ob, some v) => .need b { c with fr := c.fr.put o.dst v, st := c.st.set i ob }
  | some (b, ob, none) => .need b { c with fr := c.fr.drop o.dst, st := c.st.set i ob }
  | none => .stuck
/-- An operation; what stands ahead is what follows it. -/
def performA (c : Cfg T) (o : Oper) : Ask T → Nx T
  | .val v => .go { c with fr := c.fr.put o.dst v }
  | .need b v => .need b { c with fr := c.fr.put o.dst v }
  | .rd i f => performRd c o ((c.st[i]?).bind f)
  | .wr i f => performWr c o i ((c.st[i]?).bind f)
  | .new b ob mk => .need b { c with fr := c.fr.put o.dst (mk c.st.length), st := c.st ++ [ob] }
  | .call f args => callOf E c f args o.dst
  | .fork b v u => .fork b { c with fr := c.fr.put o.dst v } { c with fr := c.fr.put o.dst u }
def perform (c : Cfg T) (o : Oper) : Nx T :=
  match opAct E c.fr o with
  | none => .stuck
  | some a => performA E c o a

/-- The next sign of a text: two ways. -/
def performN (c : Cfg T) (o : Oper) : Nx T :=
  match o.op with
  | .next x true => match evalO c.fr x with
    | some (.itr i) => match c.st[i]? with
      | some (.iter s pos) => .br (Nat.ble (pos + 1) s.length) { c with fr := c.fr.put o.dst (.tup [.bool true, .int .i64 pos, .int .i32 (Utf8.decode ⟨⟨s⟩⟩ pos).1]), st := c.st.set i (.iter s (pos + (Utf8.decode ⟨⟨s⟩⟩ pos).2)) }
          { c with fr := c.fr.put o.dst (.tup [.bool false]), st := c.st.set i (.iter s pos) }
      | _ => .stuck
    | _ => .stuck
  | _ => perform E c o

/-! Regions whose order is drawn: new objects have their places from the start; what is touched is kept. -/
/-- A look into a map, and the making of an entry: these go either way round. -/
def opKind : Op → Nat
  | .lookup _ _ _ false => 1
  | .mapEntry _ _ _ => 2
  | _ => 0
def footOf (all : Array Oper) (o : Oper) (i : Nat) (rd wr : List Nat) : Foot := { kind := opKind o.op, idx := i, dst := o.dst, looks := o.looksAt all, rd := rd, wr := wr }
def dgo (c : Cfg T) (all : Array Oper) (o : Oper) (rest : List Oper) (k : List (Item T)) (i base : Nat) (foot : List Foot) (rd wr : List Nat) (fr : Fr T) (st : List (Ob T)) : Cfg T :=
  { c with todo := .dops all rest (i + 1) base (foot ++ [footOf all o i rd wr]) :: k, fr := fr, st := st }
def noArr : List (V T) → Bool
  | [] => true
  | .asl _ :: _ => false
  | _ :: vs => noArr vs
def deads (st : List (Ob T)) (b : Nat) : Nat → Bool
  | 0 => true
  | n + 1 => match st[b]? with
    | some .dead => deads st (b + 1) n
    | _ => false
def fresh4 (b : Nat) : List Nat := [b, b + 1, b + 2, b + 3]
def performD (c : Cfg T) (all : Array Oper) (o : Oper) (rest : List Oper) (k : List (Item T)) (i base : Nat) (foot : List Foot) : Ask T → Nx T
  | .val v => .go (dgo c all o rest k i base foot [] [] (c.fr.put o.dst v) c.st)
  | .need b v => .need b (dgo c all o rest k i base foot [] [] (c.fr.put o.dst v) c.st)
  | .rd x f => match (c.st[x]?).bind f with
    | some (b, v) => .need b (dgo c all o rest k i base foot [x] [] (c.fr.put o.dst v) c.st)
    | none => .stuck
  | .wr x f => match (c.st[x]?).bind f with
    | some (b, ob, some v) => .need b (dgo c all o rest k i base foot [x] [x] (c.fr.put o.dst v) (c.st.set x ob))
    | some (b, ob, none) => .need b (dgo c all o rest k i base foot [x] [x] (c.fr.drop o.dst) (c.st.set x ob))
    | none => .stuck
  | .new b ob mk => match deads c.st (base + 4 * i) 1 with
    | true => .need b (dgo c all o rest k i base foot [base + 4 * i] [base + 4 * i] (c.fr.put o.dst (mk (base + 4 * i))) (c.st.set (base + 4 * i) ob))
    | false => .stuck
  | .fork .. => .stuck
  | .call f args => match noArr args && deads c.st (base + 4 * i) 4, handOver c.st (E.own f) args with
    | true, some (args, st) => match pack st 0 args with
      | none => .stuck
      | some (ids, args, obs) => .call f args obs fun v obs => match after st (base + 4 * i) ids v obs, Nat.ble obs.length (ids.length + 4) with
        | some (v, obs), true => dgo c all o rest k i base foot (ids ++ fresh4 (base + 4 * i)) (ids ++ fresh4 (base + 4 * i)) (c.fr.put o.dst v) (putAll (ids ++ fresh4 (base + 4 * i)) obs st)
        | _, _ => { c with todo := [] }
    | _, _ => .stuck
def apartS (a : Foot) (b : Foot) : Bool :=
  (match a.dst with
   | some d => !has d b.looks && !(match b.dst with | some e => Nat.beq d e | none => false)
   | none => true) &&
  (match b.dst with
   | some d => !has d a.looks
   | none => true)
def apartO (a : Foot) (b : Foot) : Bool := a.wr.all (fun x => !has x b.rd) && b.wr.all (fun x => !has x a.rd)
def apart1 (a : Foot) (b : Foot) : Bool := apartS a b && (apartO a b || (Nat.beq a.kind 1 && Nat.beq b.kind 2))
def footsOk (bs : Array Nat) : List Foot → Bool
  | [] => true
  | a :: l => l.all (fun b => (bs.getD b.idx 0).testBit a.idx || apart1 a b) && footsOk bs l
def backward (ops : List Oper) (i : Nat) : Bool :=
  match ops with
  | [] => true
  | o :: os => o.after.toList.all (fun e => !Region.binds .any e || Nat.blt e.on i) && backward os (i + 1)
def regOk (all : Array Oper) (foot : List Foot) : Bool := backward all.toList 0 && footsOk (Region.before all) foot && Region.noSelect all

/-! A state at a cut: the slots that are looked at, the objects that they lead to. -/
def lives (fr : Fr T) : List Nat → List (Nat × V T)
  | [] => []
  | t :: ts => match Fr.get fr t with
    | some v => (t, v) :: lives fr ts
    | none => lives fr ts
def frOf : List (Nat × V T) → List (V T) → Fr T
  | (t, _) :: ps, v :: vs => (t, some v) :: frOf ps vs
  | _, _ => []
def seconds : List (Nat × V T) → List (V T)
  | [] => []
  | (_, v) :: ps => v :: seconds ps
def Cfg.norm (c : Cfg T) (live : List Nat) : Option (Cfg T) :=
  let l := lives c.fr live
  let st := growSt c.st.length 0 c.st
  match grow.grows st (seconds l) with
  | (vs, st) => match pack st c.keep vs with
    | some (_, vs, obs) => some { c with fr := frOf l vs, st := obs }
    | none => none

def V.comps : V T → List (V T)
  | .tup vs => vs
  | v => [v]
def V.back : V T → List (V T) → V T
  | .tup _, vs => .tup vs
  | v, vs => vs.headD v
def Cfg.normW (c : Cfg T) (cap : V T) (live : List Nat) : Option (Cfg T × V T) :=
  let l := lives c.fr live
  let st := growSt c.st.length 0 c.st
  match grow.grows st (cap :: seconds l) with
  | (vs, st) => match pack st c.keep vs with
    | some (_, cap :: vs, obs) => some ({ c with fr := frOf l vs, st := obs }, cap)
    | _ => none

/-- What goes back to the caller. -/
def leave (c : Cfg T) (v : V T) : Option (V T × List (Ob T)) :=
  match handOver c.st (match E.ownRes c.fn with | true => v.comps.map (fun _ => true) | false => []) v.comps with
  | none => none
  | some (vs, st) =>
    let st := growSt c.keep 0 st
    match (match E.ownRes c.fn with
      | true => grow.grows st vs
      | false => (vs, st)) with
    | (vs, st) => match pack st c.keep vs with
      | some (_, vs, obs) => some (V.back v vs, obs)
      | none => none

def stepRet (c : Cfg T) : Nx T :=
  match resultV E c.fr c.st c.res with
  | some [v] => match leave E c v with
    | some (v, st) => .ret v st
    | none => .stuck
  | some vs => match leave E c (.tup vs) with
    | some (v, st) => .ret v st
    | none => .stuck
  | none => .stuck
/-- The way that was taken tells a truth value. -/
def know (fr : Fr T) (x : Operand) (t : Bool) : Fr T :=
  match x with
  | .tmp d => fr.put (some d) (.bool t)
  | _ => fr
def stepCond (c : Cfg T) (k : List (Item T)) (x : Operand) (a b : Code) : Nx T :=
  match evalO c.fr x with
  | some (.bool t) => .br t { c with todo := .code a :: k, fr := know c.fr x true } { c with todo := .code b :: k, fr := know c.fr x false }
  | _ => .stuck
def stepExit (c : Cfg T) (k : List (Item T)) (id : Nat) : Nx T :=
  match exitTo id k with
  | some k => .go { c with todo := k }
  | none => match zoneOf k with
    | .rnd _ fr _ k => .go { c with todo := .code (.exit id) :: k, fr := fr }
    | _ => .stuck
def stepReturn (c : Cfg T) (k : List (Item T)) : Nx T :=
  match zoneOf k with
  | .top => stepRet E c
  | .rnd _ fr _ k => .go { c with todo := .code .ret :: k, fr := fr }
  | .pre => .stuck
def inReg (c : Cfg T) (k : List (Item T)) (ops : Array Oper) (draw : Bool) : Cfg T :=
  match draw with
  | false => { c with todo := .ops ops ops.toList :: k }
  | true => { c with todo := .dops ops ops.toList 0 c.st.length [] :: k, st := c.st ++ List.replicate (4 * ops.size) .dead }
def stepRegion (c : Cfg T) (k : List (Item T)) (id : Nat) (ops : Array Oper) (draw : Bool) : Nx T :=
  match zoneOf k with
  | .top => match E.cut c.fn id with
    | some live => match c.norm live with
      | some c => .cut { c with todo := .reg id ops draw :: k }
      | none => .stuck
    | none => .go (inReg c k ops draw)
  | _ => match draw with
    | false => .go (inReg c k ops false)
    | true => .stuck
/-- The list that a loop ranges over. -/
def listAt (e : K) (st : List (Ob T)) : V T → Option (List (T e))
  | .ptr j 0 => match st[j]? with
    | some (.box _ (.sl e' xs o :: _)) => listOf e (.sl e' xs o)
    | _ => none
  | _ => none
def stepRange (c : Cfg T) (k : List (Item T)) (f : Operand) (params : Array Tmp) (assign body : Code) : Nx T :=
  match zoneOf k, evalO c.fr f with
  | .top, some (.fn g [] [cap]) => match E.back g with
    | some e => match listAt e c.st cap, params.toList with
      | some xs, [p, q] => .need (decide (xs.length < 4611686018427387904)) { c with todo := .rounds ⟨e, cap, p, q, assign, body⟩ xs.length :: k }
      | _, _ => .stuck
    | none => .stuck
  | _, _ => .stuck
def stepCode (c : Cfg T) (k : List (Item T)) : Code → Nx T
  | .ret => stepReturn E c k
  | .skip => .go { c with todo := k }
  | .seq a b => .go { c with todo := .code a :: .code b :: k }
  | .cond x a b => stepCond c k x a b
  | .block id body => .go { c with todo := .code body :: .inBlock id :: k }
  | .loop body => .go { c with todo := .code body :: .inLoop body (match E.cuts c.fn with | true => none | false => some (slotsOf [] c.fr)) :: k }
  | .exit id => stepExit c k id
  | .region id ops draw => stepRegion E c k id ops draw
  | .rangeFunc f params assign body => stepRange E c k f params assign body
  | _ => .stuck
def stepRounds (c : Cfg T) (k : List (Item T)) (r : Rnd T) (i : Nat) : Nx T :=
  match zoneOf k with
  | .top => match E.cut c.fn (1000000 + r.p) with
    | some live => match c.normW r.cap live with
      | some (c, cap) => .cut { c with todo := .head ⟨r.e, cap, r.p, r.q, r.assign, r.body⟩ i :: k }
      | none => .stuck
    | none => .go { c with todo := .head r i :: k }
  | _ => .stuck
def stepHead (c : Cfg T) (k : List (Item T)) (r : Rnd T) (i : Nat) : Nx T :=
  .br (decide (0 < i)) { c with todo := .rin r i :: k } { c with todo := k }
def stepRin (c : Cfg T) (k : List (Item T)) (r : Rnd T) (i : Nat) : Nx T :=
  match listAt r.e c.st r.cap with
  | some xs => match cut E (E.num r.e) (E.enc r.e (xs.getD (i - 1) (E.dflt r.e))) with
    | some v => .need (Nat.ble i xs.length && (Nat.blt r.p c.n && Nat.blt r.q c.n)) { c with todo := .code r.assign :: .begin :: .code r.body :: .rend r c.fr i :: k, fr := (r.q, some v) :: (r.p, some (.int .i64 ((i - 1 : Nat) : Int))) :: c.fr }
    | none => .stuck
  | none => .stuck
def stepGuard (c : Cfg T) (k : List (Item T)) (all : Array Oper) (o : Oper) (rest : List Oper) (j : Nat) (want : Bool) : Nx T :=
  match (all[j]?).bind (·.dst) with
  | none => .stuck
  | some d => match Fr.get c.fr d with
    | some (.bool t) => .br (match want with | true => t | false => !t) { c with todo := .on all o rest :: k, fr := c.fr.put (some d) (.bool want) } { c with todo := .ops all rest :: k, fr := (c.fr.put (some d) (.bool (!want))).drop o.dst }
    | some .und => .go { c with todo := .ops all rest :: k, fr := c.fr.drop o.dst }
    | _ => .stuck
def dstOk (n : Nat) : Option Nat → Bool
  | some d => Nat.blt d n
  | none => true
def stepOps (c : Cfg T) (k : List (Item T)) (all : Array Oper) : List Oper → Nx T
  | [] => .go { c with todo := k }
  | o :: rest => match dstOk c.n o.dst with
    | false => .stuck
    | true => match o.guard with
      | none => performN E { c with todo := .ops all rest :: k } o
      | some (j, want) => stepGuard c k all o rest j want
def stepGuardD (c : Cfg T) (k : List (Item T)) (all : Array Oper) (o : Oper) (rest : List Oper) (i base : Nat) (foot : List Foot) (j : Nat) (want : Bool) : Nx T :=
  match (all[j]?).bind (·.dst) with
  | none => .stuck
  | some d => match Fr.get c.fr d with
    | some (.bool t) => .br (match want with | true => t | false => !t) { c with todo := .don all o rest i base foot :: k, fr := c.fr.put (some d) (.bool want) } (dgo c all o rest k i base foot [] [] ((c.fr.put (some d) (.bool (!want))).drop o.dst) c.st)
    | some .und => .go (dgo c all o rest k i base foot [] [] (c.fr.drop o.dst) c.st)
    | _ => .stuck
def stepDops (c : Cfg T) (k : List (Item T)) (all : Array Oper) (rest : List Oper) (i base : Nat) (foot : List Foot) : Nx T :=
  match rest with
  | [] => match regOk all foot with
    | true => .go { c with todo := k }
    | false => .stuck
  | o :: rest => match dstOk c.n o.dst with
    | false => .stuck
    | true => match o.guard with
      | none => match opAct E c.fr o with
        | none => .stuck
        | some a => performD E c all o rest k i base foot a
      | some (j, want) => stepGuardD c k all o rest i base foot j want
def stepDon (c : Cfg T) (k : List (Item T)) (all : Array Oper) (o : Oper) (rest : List Oper) (i base : Nat) (foot : List Foot) : Nx T :=
  match opAct E c.fr o with
  | none => .stuck
  | some a => performD E c all o rest k i base foot a
def inTop (k : List (Item T)) : Bool := match zoneOf k with
  | .top => true
  | _ => false
def stepLoop (c : Cfg T) (k : List (Item T)) (body : Code) : Option (List Nat) → Nx T
  | none => .go { c with todo := .code body :: .inLoop body none :: k }
  | some slots => match Nat.ble 40 c.st.length && inTop k with
    | false => .go { c with todo := .code body :: .inLoop body (some slots) :: k, fr := prune c.fr slots }
    | true =>
      let l := lives c.fr slots
      match pack c.st c.keep (seconds l) with
      | some (_, vs, obs) => .go { c with todo := .code body :: .inLoop body (some slots) :: k, fr := frOf l vs, st := obs }
      | none => .go { c with todo := .code body :: .inLoop body (some slots) :: k, fr := prune c.fr slots }
def stepItem (c : Cfg T) (k : List (Item T)) : Item T → Nx T
  | .code a => stepCode E c k a
  | .reg id ops draw => match zoneOf k with
    | .top => .go (inReg c k ops draw)
    | _ => .stuck
  | .rounds r i => stepRounds E c k r i
  | .head r i => stepHead c k r i
  | .rin r i => stepRin E c k r i
  | .begin => .go { c with todo := k }
  | .rend r fr i => .go { c with todo := .rounds r (i - 1) :: k, fr := fr }
  | .inBlock _ => .go { c with todo := k }
  | .inLoop body slots => stepLoop c k body slots
  | .ops all l => stepOps E c k all l
  | .on all o l => performN E { c with todo := .ops all l :: k } o
  | .dops all l i base foot => stepDops E c k all l i base foot
  | .don all o l i base foot => stepDon E c k all o l i base foot
def step (c : Cfg T) : Nx T :=
  match c.todo with
  | [] => .stuck
  | i :: k => stepItem E c k i

/-! What slices.Backward returns: a function of yield that holds the list's place. -/
inductive OpShape where
  | load (t s : Nat) | len (t s : Nat) | sub (s : Nat) | mov (s : Nat) | geq (s : Nat) | idx (t x i : Nat) | yld | not (s : Nat)
def isTmp (s : Nat) : Operand → Bool
  | .tmp t => Nat.beq t s
  | _ => false
def isInt (v : Int) : Operand → Bool
  | .const (.int .i64 u) => decide (u = v)
  | _ => false
def shapeB : OpShape → Op → Bool
  | .load t s, .load u x => Nat.beq u t && isTmp s x
  | .len t s, .call c => match c.callee, c.args.toList, c.argTypes.toList with
    | .builtin .len, [x], [u] => Nat.beq u t && isTmp s x
    | _, _, _ => false
  | .sub s, .binOp .sub _ x y _ => isTmp s x && isInt 1 y
  | .mov s, .move x => isTmp s x
  | .mov s, .assign x => isTmp s x
  | .geq s, .binOp .geq _ x y _ => isTmp s x && isInt 0 y
  | .idx t s i, .indexAddr u x y => Nat.beq u t && (isTmp s x && isTmp i y)
  | .yld, .call c => match c.callee, c.args.toList with
    | .value f, [x, y] => isTmp 11 f && (isTmp 12 x && isTmp 16 y)
    | _, _ => false
  | .not s, .unOp .not _ x => isTmp s x
  | _, _ => false
def dstB (d : Nat) : Option Nat → Bool
  | some e => Nat.beq e d
  | none => false
def shapesB : List (Nat × OpShape) → List Oper → Bool
  | [], [] => true
  | (d, s) :: ss, o :: os => dstB d o.dst && (o.guard.isNone && (shapeB s o.op && shapesB ss os))
  | _, _ => false
def backB (ts te : Nat) (fn : Func) : Bool :=
  match fn.body with
  | some (.seq (.region _ r0 false) (.block b0 (.loop (.seq (.seq (.region _ r1 false) (.cond c8 .skip (.exit b))) (.seq (.block _ (.seq (.region _ r3 false) (.cond c18 .ret .skip))) (.region _ r2 false)))))) =>
    Nat.beq b b0 && isTmp 8 c8 && isTmp 18 c18 && Nat.beq fn.ntmps 19 && fn.results.toList.isEmpty &&
    shapesB [(4, .load ts 1), (5, .len ts 4), (6, .sub 5), (3, .mov 6)] r0.toList &&
    shapesB [(7, .mov 3), (8, .geq 7)] r1.toList &&
    shapesB [(11, .mov 0), (12, .mov 3), (13, .load ts 1), (14, .mov 3), (15, .idx ts 13 14), (16, .load te 15), (17, .yld), (18, .not 17)] r3.toList &&
    shapesB [(9, .mov 3), (10, .sub 9), (3, .mov 10)] r2.toList
  | _ => false
/-- Function g ranges over lists of e from their end. -/
def isBack (g : Nat) (e : K) : Bool :=
  match E.fns g with
  | some fn => match fn.body with
    | some (.seq (.region _ r0 _) _) => match r0.toList with
      | o :: _ => match o.op with
        | .load ts _ => match E.ty ts with
          | .slice e' => decide (e' = e) && backB ts (E.num e) fn
          | _ => false
        | _ => false
      | _ => false
    | _ => false
  | none => false

def backOf : List (Nat × K) → Nat → Option K
  | [], _ => none
  | (g, e) :: l, n => match Nat.beq g n with
    | true => some e
    | false => backOf l n
def argSlots : Nat → List (V T) → Fr T
  | _, [] => []
  | i, v :: vs => (i, some v) :: argSlots (i + 1) vs
def entry (f : Nat) (args : List (V T)) (st : List (Ob T)) : Option (Cfg T) :=
  match E.fns f with
  | some fn => match fn.body with
    | some b => some { todo := [.code b, .code .ret], fr := argSlots 0 args, st := st, fn := f, keep := st.length, n := fn.ntmps, res := fn.results.toList }
    | none => none
  | none => none

/-- Running, for closed values; 'ext': functions that are known. -/
def evalN (ext : Nat → List (V T) → List (Ob T) → Option (V T × List (Ob T))) : Nat → Cfg T → Option (V T × List (Ob T))
  | 0, _ => none
  | n + 1, c => match step E c with
    | .go c => evalN ext n c
    | .need b c => match b with
      | true => evalN ext n c
      | false => none
    | .br b c d => match b with
      | true => evalN ext n c
      | false => evalN ext n d
    | .fork b c d => match b with
      | true => none
      | false => evalN ext n d
    | .call f args obs k => match ext f args obs with
      | some (v, st) => evalN ext n (k v st)
      | none => match entry E f args obs with
        | some e => match evalN ext n e with
          | some (v, st) => evalN ext n (k v st)
          | none => none
        | none => none
    | .ret v st => some (v, st)
    | .cut c => evalN ext n c
    | .stuck => none
end
end Go.Proofs.YtnenfgpjedddoaaGreat.AI
