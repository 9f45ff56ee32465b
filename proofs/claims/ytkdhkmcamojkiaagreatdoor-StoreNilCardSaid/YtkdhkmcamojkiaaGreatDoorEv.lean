/- THE EVALUATOR: abstract values (block numbers renamed, capacities of grown slices open), an abstract heap, and a big-step evaluator of the model's code over them. Definitions alone; its soundness stands in the texts behind it. -/
import Derived.Orders
namespace Go.Ev

/-! ### A tree of values by number -/
inductive PT (α : Type) where
  | leaf
  | node (v : Option α) (l r : PT α)

namespace PT
variable {α β : Type}

def get : PT α → Nat → Option α
  | .leaf, _ => none
  | .node v l r, k => match k with
    | 0 => v
    | m + 1 => bif Nat.beq (m % 2) 0 then l.get (m / 2) else r.get (m / 2)

/-- 'set', or 'erase' where x is none. -/
def put : Nat → PT α → Nat → Option α → PT α
  | 0, t, _, _ => t
  | f + 1, t, k, x => match t with
    | .leaf => (match k with
      | 0 => .node x .leaf .leaf
      | m + 1 => bif Nat.beq (m % 2) 0 then .node none (put f .leaf (m / 2) x) .leaf else .node none .leaf (put f .leaf (m / 2) x))
    | .node v l r => (match k with
      | 0 => .node x l r
      | m + 1 => bif Nat.beq (m % 2) 0 then .node v (put f l (m / 2) x) r else .node v l (put f r (m / 2) x))

/-- 'put', its result handed on in full. -/
def putK : Nat → PT α → Nat → Option α → (PT α → β) → β
  | 0, t, _, _, c => c t
  | f + 1, t, k, x, c => match t with
    | .leaf => (match k with
      | 0 => c (.node x .leaf .leaf)
      | m + 1 => bif Nat.beq (m % 2) 0 then putK f .leaf (m / 2) x (fun l => c (.node none l .leaf)) else putK f .leaf (m / 2) x (fun r => c (.node none .leaf r)))
    | .node v l r => (match k with
      | 0 => c (.node x l r)
      | m + 1 => bif Nat.beq (m % 2) 0 then putK f l (m / 2) x (fun l => c (.node v l r)) else putK f r (m / 2) x (fun r => c (.node v l r)))

/-- 'put', whatever the number. -/
def set (t : PT α) (k : Nat) (x : Option α) : PT α := put (k + 1) t k x
def setK (t : PT α) (k : Nat) (x : Option α) (c : PT α → β) : β := putK (k + 1) t k x c
end PT

/-! ### Abstract values -/
inductive ACap where
  | known (n : Nat)
  | upto (b j : Nat)

inductive AV where
  | bool (b : Bool)
  | int (k : IntKind) (n : Int)
  | str (s : List Nat)
  | ptr (b o : Nat)
  | nilp
  | gptr (g : Nat)
  | slc (b o len : Nat) (cap : ACap)
  | emp (k : Nat)
  | nils
  | map (b : Nat)
  | nilm
  | func (f : Nat) (caps : List AV)
  | nilf
  | yld (l : Nat)
  | iface (t : Nat) (v : AV)
  | nili
  | agg (l : List AV)
  | tup (l : List AV)
  | atom (k : Nat)

def AV.undef : AV := .tup []

inductive LState where
  | ready | busy | done | exhausted

inductive Jump where
  | none | ret | exit (id : Nat) | goto (l : Nat)

inductive AObj where
  | cells (cs : List AV) (elem : Nat) (exact wr : Bool) (unit : Nat)
  | map (es : List (AV × AV × Nat)) (clock : Nat)
  | siter (s : List Nat) (pos : Nat)
  | loop (st : LState) (pend : Jump) (tm : PT AV) (sz : Nat) (params : Array Tmp) (assign body : Code) (dfr : Nat)

abbrev Heap := PT AObj

/-! ### What is known of the program -/
inductive TyD where
  | bool | int (k : IntKind) | string | slice (e : Nat) | array (n e : Nat) | struct (fs : List (Nat × Nat × Bool))
  | map (key elem : Nat) | ptr (e : Nat) | func | iface | uptr | other

structure TyI where
  size : Nat
  bytes : Nat
  zero : List AV
  agg : Bool
  cmp : Bool
  desc : TyD

inductive Ext where
  | same | count | cmp

/-- What a call comes to at just these arguments, of so much of the heap, as is known already. -/
structure Hook where
  fn : Nat
  args : List AV
  nx : Nat
  pre : List (Nat × AObj)
  v : AV
  nx' : Nat
  post : List (Nat × AObj)

structure Tabs where
  types : PT TyI
  funcs : List Func
  exts : PT Ext
  globs : PT (List AV)
  /-- slices.Sorted[string], maps.Keys' iterator over map[string]: the two numbers, and the element type of a []string. -/
  sorted : Nat
  keysOf : Nat
  strT : Nat
  /-- What functions of no argument hand back, as is known already. -/
  memo : PT AV
  hooks : List Hook

def Tabs.ty (T : Tabs) (t : Nat) : Option TyI := T.types.get t
def Tabs.ext (T : Tabs) (f : Nat) : Option Ext := T.exts.get f
def Tabs.glob (T : Tabs) (g : Nat) : Option (List AV) := T.globs.get g

def zeroOf (i : TyI) : AV := bif i.agg then .agg i.zero else match i.zero with | [v] => v | _ => .undef

/-! ### Lists, handed on in full -/
def setK {α β : Type} : List α → Nat → α → (Option (List α) → β) → β
  | [], _, _, c => c none
  | x :: xs, i, v, c => match i with
    | 0 => c (some (v :: xs))
    | i + 1 => setK xs i v fun r => match r with | none => c none | some ys => c (some (x :: ys))

def appK {α β : Type} : List α → List α → (List α → β) → β
  | [], ys, c => c ys
  | x :: xs, ys, c => appK xs ys fun r => c (x :: r)

/-- The first n; none: there are not so many. -/
def takeK {α β : Type} : List α → Nat → (Option (List α) → β) → β
  | xs, n, c => match n with
    | 0 => c (some [])
    | n + 1 => match xs with
      | [] => c none
      | x :: xs => takeK xs n fun r => match r with | none => c none | some ys => c (some (x :: ys))

def dropN {α : Type} : List α → Nat → List α
  | xs, n => match n with
    | 0 => xs
    | n + 1 => match xs with
      | [] => []
      | _ :: xs => dropN xs n

def nth {α : Type} : List α → Nat → Option α
  | [], _ => none
  | x :: xs, n => match n with
    | 0 => some x
    | n + 1 => nth xs n

def repK {α β : Type} : Nat → List α → List α → (List α → β) → β
  | 0, _, acc, c => c acc
  | n + 1, zs, acc, c => appK zs acc fun r => repK n zs r c

def lenL {α : Type} : List α → Nat → Nat
  | [], n => n
  | _ :: xs, n => match n with
    | 0 => lenL xs 1
    | n + 1 => lenL xs (n + 2)

def eqL : List Nat → List Nat → Bool
  | [], [] => true
  | x :: xs, y :: ys => bif Nat.beq (x % 256) (y % 256) then eqL xs ys else false
  | _, _ => false

def ltL : List Nat → List Nat → Bool
  | _, [] => false
  | [], _ :: _ => true
  | x :: xs, y :: ys => bif Nat.blt (x % 256) (y % 256) then true else bif Nat.beq (x % 256) (y % 256) then ltL xs ys else false

/-- A number written out. -/
def natK {β : Type} (n : Nat) (c : Nat → β) : β := match n with | 0 => c 0 | m + 1 => c (m + 1)
def intK {β : Type} (n : Int) (c : Int → β) : β := match n with
  | .ofNat m => natK m fun m => c (.ofNat m)
  | .negSucc m => natK m fun m => c (.negSucc m)

/-! ### Constants -/
def bytesK {β : Type} : List UInt8 → (List Nat → β) → β
  | [], c => c []
  | b :: bs, c => natK b.toNat fun n => bytesK bs fun r => c (n :: r)

def ofConst : Value → Option AV
  | .bool b => some (.bool b)
  | .int k n => some (.int k n)
  | .string s => bytesK s.data.toList fun l => some (.str l)
  | .pointer none => some .nilp
  | .slice none 0 0 => some .nils
  | .map none => some .nilm
  | .nilFunc => some .nilf
  | .nilIface => some .nili
  | .tuple vs => match vs.toList with | [] => some .undef | _ => none
  | _ => none

/-! ### The slots of an activation -/
def rdTmp (tm : PT AV) (t : Nat) : AV := match tm.get t with | some v => v | none => .undef

def evalO (tm : PT AV) : Operand → Option AV
  | .tmp t => some (rdTmp tm t)
  | .const v => ofConst v
  | .global g => some (.gptr g)
  | .func f => some (.func f [])

def evalL (tm : PT AV) : List Operand → Option (List AV)
  | [] => some []
  | x :: xs => match evalO tm x with
    | none => none
    | some v => match evalL tm xs with
      | none => none
      | some vs => some (v :: vs)

/-! ### Numbers -/
def wrapF (k : IntKind) (n : Int) : Int :=
  match n with
  | .ofNat m => bif Nat.blt m (2 ^ (match k with | .i8 => 7 | .u8 => 8 | .i16 => 15 | .u16 => 16 | .i32 => 31 | .u32 => 32 | .i64 => 63 | .u64 => 64)) then .ofNat m else k.wrap (.ofNat m)
  | .negSucc m => k.wrap (.negSucc m)

def kindEq : IntKind → IntKind → Bool
  | .i8, .i8 | .i16, .i16 | .i32, .i32 | .i64, .i64 | .u8, .u8 | .u16, .u16 | .u32, .u32 | .u64, .u64 => true
  | _, _ => false

def natOf (k : IntKind) (n : Int) : Nat := match n with
  | .ofNat m => m % 2 ^ k.bits
  | .negSucc m => (IntKind.u64.wrap (.negSucc m)).toNat % 2 ^ k.bits

def ltI (a b : Int) : Bool := match a, b with
  | .ofNat a, .ofNat b => Nat.blt a b
  | .negSucc _, .ofNat _ => true
  | .ofNat _, .negSucc _ => false
  | .negSucc a, .negSucc b => Nat.blt b a
def eqI (a b : Int) : Bool := match a, b with
  | .ofNat a, .ofNat b => Nat.beq a b
  | .negSucc a, .negSucc b => Nat.beq a b
  | _, _ => false

def binI (op : BinOp) (k : IntKind) (a b : Int) : Option AV :=
  match op with
  | .add => intK (wrapF k (a + b)) fun n => some (.int k n)
  | .sub => intK (wrapF k (a - b)) fun n => some (.int k n)
  | .mul => intK (wrapF k (a * b)) fun n => some (.int k n)
  | .quo => bif eqI b 0 then none else intK (wrapF k (a.tdiv b)) fun n => some (.int k n)
  | .rem => bif eqI b 0 then none else intK (a.tmod b) fun n => some (.int k n)
  | .and => intK (wrapF k (.ofNat (Nat.land (natOf k a) (natOf k b)))) fun n => some (.int k n)
  | .or => intK (wrapF k (.ofNat (Nat.lor (natOf k a) (natOf k b)))) fun n => some (.int k n)
  | .xor => intK (wrapF k (.ofNat (Nat.xor (natOf k a) (natOf k b)))) fun n => some (.int k n)
  | .eql => some (.bool (eqI a b))
  | .neq => some (.bool (!eqI a b))
  | .lss => some (.bool (ltI a b))
  | .leq => some (.bool (!ltI b a))
  | .gtr => some (.bool (ltI b a))
  | .geq => some (.bool (!ltI a b))
  | _ => none

def shiftI (op : BinOp) (k : IntKind) (a b : Int) : Option AV :=
  match b with
  | .negSucc _ => none
  | .ofNat y =>
    let n := bif Nat.ble y k.bits then y else k.bits
    match op with
    | .shl => intK (wrapF k (a * 2 ^ n)) fun n => some (.int k n)
    | .shr => (match a with
      | .ofNat m => natK (m / 2 ^ n) fun m => some (.int k (.ofNat m))
      | .negSucc _ => none)
    | _ => none

def binS (op : BinOp) (a b : List Nat) : Option AV :=
  match op with
  | .add => bif Nat.ble (a.length + b.length) 9223372036854775807 then appK a b fun r => some (.str r) else none
  | .eql => some (.bool (eqL a b))
  | .neq => some (.bool (!eqL a b))
  | .lss => some (.bool (ltL a b))
  | .leq => some (.bool (ltL a b || eqL a b))
  | .gtr => some (.bool (!(ltL a b || eqL a b)))
  | .geq => some (.bool (!ltL a b))
  | _ => none

def beqB : Bool → Bool → Bool
  | true, b => b
  | false, b => !b

/-- Are two equal, at a type; 'c': is one of the operands written as a constant? -/
def aeq (T : Tabs) (t : Nat) (c : Bool) (x y : AV) : Option Bool :=
  match T.ty t with
  | none => none
  | some i => match i.desc, x, y with
    | .bool, .bool a, .bool b => some (beqB a b)
    | .ptr _, .nilp, .nilp => some true
    | .ptr _, .nilp, .ptr _ _ | .ptr _, .ptr _ _, .nilp | .ptr _, .nilp, .gptr _ | .ptr _, .gptr _, .nilp => some false
    | .ptr e, .ptr b o, .ptr b' o' => (match T.ty e with
      | none => none
      | some j => bif Nat.beq j.size 0 then none else bif Nat.beq b b' then some (Nat.beq o o') else none)
    | .slice _, .nils, .nils => some true
    | .slice _, .nils, .slc .. | .slice _, .slc .., .nils | .slice _, .nils, .emp _ | .slice _, .emp _, .nils => some false
    | .func, .nilf, .nilf => some true
    | .func, .nilf, .func .. | .func, .func .., .nilf => some false
    | .iface, .nili, .nili => bif c then some true else none
    | .iface, .nili, .iface _ _ | .iface, .iface _ _, .nili => some false
    | .iface, .iface tx vx, .iface ty vy =>
      bif Nat.beq tx ty then
        (match T.ty tx with
         | none => none
         | some j => bif j.cmp then (match j.desc, vx, vy with
           | .int _, .int k a, .int k' b => bif kindEq k k' then some (eqI a b) else none
           | _, _, _ => none) else none)
      else some false
    | _, _, _ => none

def isConst : Operand → Bool
  | .const _ => true
  | _ => false

def binA (T : Tabs) (op : BinOp) (t : Nat) (c : Bool) (x y : AV) : Option AV :=
  match x, y with
  | .int k a, .int k' b => (match op with
    | .shl | .shr => shiftI op k a b
    | _ => bif kindEq k k' then binI op k a b else none)
  | .str a, .str b => binS op a b
  | x, y => (match op with
    | .eql => (match aeq T t c x y with | some b => some (.bool b) | none => none)
    | .neq => (match aeq T t c x y with | some b => some (.bool (!b)) | none => none)
    | _ => none)

def unA (op : UnOp) (x : AV) : Option AV :=
  match op, x with
  | .not, .bool b => some (.bool (!b))
  | .neg, .int k n => intK (wrapF k (0 - n)) fun n => some (.int k n)
  | .xor, .int k n => intK (wrapF k (.ofNat (Nat.xor (2 ^ k.bits - 1) (natOf k n)))) fun n => some (.int k n)
  | _, _ => none

/-- A struct's part. -/
def partA (cs : List AV) (off size : Nat) (agg : Bool) : Option AV :=
  bif agg then takeK (dropN cs off) size fun r => match r with | some l => some (.agg l) | none => none
  else nth cs off

def cellsOf : AV → List AV
  | .agg l => l
  | v => [v]

/-- Is it the value of one cell? -/
def oneCell : AV → Bool
  | .agg _ | .tup _ => false
  | _ => true
def allOne : List AV → Bool
  | [] => true
  | v :: vs => bif oneCell v then allOne vs else false

/-- Put the cells of 'v' over those of 'cs' from 'off' on. -/
def layOver : List AV → Nat → List AV → Option (List AV)
  | cs, _, [] => some cs
  | cs, off, v :: vs => setK cs off v fun r => match r with | none => none | some cs => layOver cs (off + 1) vs

def fillA (place : Nat → Option (Nat × Nat)) : List AV → List (Nat × AV) → Option (List AV)
  | cs, [] => some cs
  | cs, (i, v) :: rest => match place i with
    | none => none
    | some (off, size) =>
      let l := cellsOf v
      bif Nat.beq l.length size && Nat.blt 0 size then (match layOver cs off l with | none => none | some cs => fillA place cs rest) else none

def capOpen : ACap → Nat → ACap
  | .known n, l => .known (n - l)
  | .upto b j, l => .upto b (j + l)

/-! ### Operations, a definition each -/
/-- What an operation comes to: a value · a value and (perhaps) a new block under the next number · a value, the heap behind it, the next number · a call · a round of a loop. -/
inductive OpR where
  | val (v : AV)
  | new (v : AV) (ob : Option AObj)
  | heap (v : AV) (hp : Heap) (nx : Nat)
  | call (f : Nat) (args : List AV)
  | round (l : Nat) (args : List AV)

def ofVal : Option AV → Option OpR
  | some v => some (.val v)
  | none => none

def aPick (tm : PT AV) (c a b : Operand) : Option AV := match evalO tm c with
  | some (.bool true) => evalO tm a
  | some (.bool false) => evalO tm b
  | _ => none

def aNilCheck (tm : PT AV) (x : Operand) : Option AV := match evalO tm x with
  | some (.ptr b o) => some (.ptr b o)
  | _ => none

def aBin (T : Tabs) (tm : PT AV) (op : BinOp) (t : Nat) (x y : Operand) : Option AV := match evalO tm x with
  | none => none
  | some a => match evalO tm y with
    | none => none
    | some b => binA T op t (isConst x || isConst y) a b

def aUn (tm : PT AV) (op : UnOp) (x : Operand) : Option AV := match evalO tm x with
  | some a => unA op a
  | none => none

def aMakeIface (T : Tabs) (tm : PT AV) (t : Nat) (x : Operand) : Option AV := match T.ty t with
  | none => none
  | some i => match i.desc with
    | .iface => none
    | _ => match evalO tm x with
      | some v => some (.iface t v)
      | none => none

def aMakeFunc (tm : PT AV) (fn : Fn) (first caps : Array Operand) : Option AV := match fn with
  | .func f => (match first.toList with
    | [] => (match evalL tm caps.toList with | some vs => some (.func f vs) | none => none)
    | _ => none)
  | _ => none

def aFieldAddr (T : Tabs) (tm : PT AV) (s : Nat) (x : Operand) (f : Nat) : Option AV := match T.ty s with
  | none => none
  | some i => match i.desc with
    | .struct fs => (match nth fs f with
      | none => none
      | some (off, size, _) => bif Nat.beq size 0 then none else match evalO tm x with
        | some (.ptr b o) => natK (o + off) fun o => some (.ptr b o)
        | _ => none)
    | _ => none

def aField (T : Tabs) (tm : PT AV) (s : Nat) (x : Operand) (f : Nat) : Option AV := match T.ty s with
  | none => none
  | some i => match i.desc with
    | .struct fs => (match nth fs f with
      | none => none
      | some (off, size, agg) => match evalO tm x with
        | some (.agg cs) => partA cs off size agg
        | _ => none)
    | _ => none

def aIndexAddr (T : Tabs) (tm : PT AV) (t : Nat) (x ix : Operand) : Option AV := match T.ty t with
  | none => none
  | some i => match evalO tm ix with
    | some (.int _ (.ofNat n)) => (match i.desc, evalO tm x with
      | .array len e, some (.ptr b o) => bif Nat.blt n len then (match T.ty e with | none => none | some j => natK (o + n * j.size) fun o => some (.ptr b o)) else none
      | .slice e, some (.slc b o len _) => bif Nat.blt n len then (match T.ty e with | none => none | some j => natK (o + n * j.size) fun o => some (.ptr b o)) else none
      | _, _ => none)
    | _ => none

def aIndex (T : Tabs) (tm : PT AV) (t : Nat) (x ix : Operand) : Option AV := match T.ty t with
  | none => none
  | some i => match evalO tm ix with
    | some (.int _ (.ofNat n)) => (match i.desc, evalO tm x with
      | .string, some (.str s) => (match nth s n with | none => none | some c => natK (c % 256) fun c => some (.int .u8 (.ofNat c)))
      | .array len e, some (.agg cs) => bif Nat.blt n len then (match T.ty e with | none => none | some j => partA cs (n * j.size) j.size j.agg) else none
      | _, _ => none)
    | _ => none

def aExtract (tm : PT AV) (x : Operand) (ix : Nat) : Option AV := match evalO tm x with
  | some (.tup vs) => nth vs ix
  | _ => none

def placesOf (T : Tabs) (d : TyD) : Option (Nat → Option (Nat × Nat)) := match d with
  | .struct fs => some fun k => match nth fs k with | some (off, size, _) => some (off, size) | none => none
  | .array _ e => (match T.ty e with
    | none => none
    | some j => some fun k => some (k * j.size, j.size))
  | _ => none

def aBuild (T : Tabs) (tm : PT AV) (t : Nat) (parts : Array (Nat × Operand)) : Option AV := match T.ty t with
  | none => none
  | some i => match evalL tm (parts.toList.map (·.2)) with
    | none => none
    | some vs => match placesOf T i.desc with
      | none => none
      | some place => match fillA place i.zero ((parts.toList.map (·.1)).zip vs) with
        | some cs => some (.agg cs)
        | none => none

/-- A bound of a slice expression: none is 'dflt'. -/
def boundA (tm : PT AV) (dflt : Nat) : Option Operand → Option Nat
  | none => some dflt
  | some l => match evalO tm l with
    | some (.int _ (.ofNat n)) => some n
    | _ => none

def aSliceStr (tm : PT AV) (s : List Nat) (lo hi : Option Operand) : Option AV := match boundA tm 0 lo with
  | none => none
  | some l => match boundA tm (lenL s 0) hi with
    | none => none
    | some h => bif Nat.ble l h && Nat.ble h (lenL s 0) then takeK (dropN s l) (h - l) (fun r => match r with | some r => some (.str r) | none => none) else none

/-- Of a slice: the new slice; 'nx': the number of an empty slice at its array's end. -/
def sliceOf (b o len : Nat) (cap : ACap) (l h size nx : Nat) : Option AV :=
  bif Nat.ble l h then
    match cap with
    | .known c => bif Nat.ble h c then natK (h - l) fun n => natK (c - l) fun c' => bif Nat.beq l c then some (.slc b o n (.known c')) else natK (o + l * size) fun o => some (.slc b o n (.known c')) else none
    | .upto r k => bif Nat.ble h len then
        (bif Nat.beq l 0 then natK h fun n => some (.slc b o n (.upto r k)) else
          bif Nat.blt l len then natK (h - l) fun n => natK (k + l) fun k => natK (o + l * size) fun o => some (.slc b o n (.upto r k))
          else some (.emp nx)) else none
  else none

def aSlice (T : Tabs) (tm : PT AV) (nx t : Nat) (x : Operand) (lo hi mx : Option Operand) : Option OpR := match mx with
  | some _ => none
  | none => match T.ty t with
    | none => none
    | some i => match i.desc, evalO tm x with
      | .string, some (.str s) => ofVal (aSliceStr tm s lo hi)
      | .slice e, some (.slc b o len cap) => (match T.ty e with
        | none => none
        | some j => match boundA tm 0 lo with
          | none => none
          | some l => match boundA tm len hi with
            | none => none
            | some h => match sliceOf b o len cap l h j.size nx with
              | none => none
              | some v => some (.new v none))
      | .slice e, some .nils => (match T.ty e with
        | none => none
        | some _ => match boundA tm 0 lo with
          | some 0 => (match boundA tm 0 hi with
            | some 0 => some (.new .nils none)
            | _ => none)
          | _ => none)
      | _, _ => none

/-! ### Reading -/
def cellsAt (hp : Heap) (b : Nat) : Option (List AV) := match hp.get b with
  | some (.cells cs _ _ _ _) => some cs
  | _ => none

def loadA (T : Tabs) (t : Nat) (p : AV) (hp : Heap) : Option AV :=
  match T.ty t with
  | none => none
  | some i => match p with
    | .ptr b o => (match cellsAt hp b with
      | none => none
      | some cs => partA cs o i.size i.agg)
    | .gptr g => (match T.glob g with
      | none => none
      | some cs => partA cs 0 i.size i.agg)
    | _ => none

def keyEq (x y : AV) : Option Bool := match x, y with
  | .str a, .str b => some (eqL a b)
  | .int k a, .int k' b => bif kindEq k k' then some (eqI a b) else none
  | .bool a, .bool b => some (beqB a b)
  | _, _ => none

def findA (k : AV) : List (AV × AV × Nat) → Nat → Option (Option (Nat × AV))
  | [], _ => some none
  | (k', v, _) :: es, i => match keyEq k k' with
    | none => none
    | some true => some (some (i, v))
    | some false => findA k es (i + 1)

def keyOk (T : Tabs) (kt : Nat) (k : AV) : Bool := match T.ty kt with
  | none => false
  | some i => match i.desc, k with
    | .string, .str _ => true
    | .int _, .int _ _ => true
    | .bool, .bool _ => true
    | _, _ => false

def byteCells : List AV → Option (List Nat)
  | [] => some []
  | .int .u8 (.ofNat n) :: cs => (match byteCells cs with | some r => some (n :: r) | none => none)
  | _ => none

def aLoad (T : Tabs) (tm : PT AV) (hp : Heap) (t : Nat) (x : Operand) : Option AV := match evalO tm x with
  | some p => loadA T t p hp
  | none => none

def mapAt (hp : Heap) : Option AV → Option (List (AV × AV × Nat))
  | some .nilm => some []
  | some (.map b) => (match hp.get b with | some (.map es _) => some es | _ => none)
  | _ => none

def aLookup (T : Tabs) (tm : PT AV) (hp : Heap) (t : Nat) (m k : Operand) (ok : Bool) : Option AV := match T.ty t with
  | none => none
  | some i => match i.desc with
    | .map kt et => (match T.ty et with
      | none => none
      | some e => match evalO tm k with
        | none => none
        | some kv => bif keyOk T kt kv then
            (match mapAt hp (evalO tm m) with
            | none => none
            | some es => match findA kv es 0 with
              | none => none
              | some (some (_, v)) => some (bif ok then .tup [v, .bool true] else v)
              | some none => some (bif ok then .tup [zeroOf e, .bool false] else zeroOf e))
            else none)
    | _ => none

/-- n cells from 'o' on. -/
def cut {β : Type} (hp : Heap) (b o n : Nat) (c : Option (List AV) → β) : β := match cellsAt hp b with
  | none => c none
  | some cs => takeK (dropN cs o) n c

def aBytesStr (T : Tabs) (hp : Heap) (e : Nat) (x : Option AV) : Option AV := match T.ty e with
  | none => none
  | some j => match j.desc with
    | .int .u8 => (match x with
      | some .nils => some (.str [])
      | some (.slc b o len _) => cut hp b o len fun r => (match r with
        | none => none
        | some l => match byteCells l with | some s => some (.str s) | none => none)
      | _ => none)
    | _ => none

def aStrBytes (T : Tabs) (nx e : Nat) (x : Option AV) : Option OpR := match T.ty e with
  | none => none
  | some j => match j.desc with
    | .int .u8 => (match x with
      | some (.str s) => some (.new (.slc nx 0 (lenL s 0) (.upto nx 0)) (some (.cells (s.map fun c => .int .u8 (.ofNat (c % 256))) e false true 1)))
      | _ => none)
    | _ => none

def aConvert (T : Tabs) (tm : PT AV) (hp : Heap) (nx s d : Nat) (x : Operand) : Option OpR := match T.ty s with
  | none => none
  | some si => match T.ty d with
    | none => none
    | some di => match si.desc, di.desc with
      | .int _, .int k => (match evalO tm x with
        | some (.int _ n) => intK (wrapF k n) fun n => some (.val (.int k n))
        | _ => none)
      | .string, .string => (match evalO tm x with
        | some (.str s) => some (.val (.str s))
        | _ => none)
      | .slice e, .string => ofVal (aBytesStr T hp e (evalO tm x))
      | .string, .slice e => aStrBytes T nx e (evalO tm x)
      | .ptr t, .uptr => (match evalO tm x with
        | some (.ptr b o) => (match T.ty t with
          | none => none
          | some j => bif Nat.beq j.size 0 then none else match cellsAt hp b with
            | none => none
            | some cs => match nth cs o with | some _ => some (.val (.ptr b o)) | none => none)
        | _ => none)
      | .uptr, .ptr t => (match evalO tm x with
        | some (.ptr b o) => (match hp.get b with
          | some (.cells cs e true _ _) => (match T.ty t with
            | none => none
            | some j => bif Nat.beq e t && Nat.beq o 0 && Nat.blt 0 j.size && Nat.ble j.size (lenL cs 0) then some (.val (.ptr b o)) else none)
          | _ => none)
        | _ => none)
      | _, _ => none

/-! ### Making a block -/
def aAlloc (T : Tabs) (nx t : Nat) : Option OpR := match T.ty t with
  | some i => some (.new (.ptr nx 0) (some (.cells i.zero t true true 0)))
  | none => none

def aBox (tm : PT AV) (nx t : Nat) (x : Operand) : Option OpR := match evalO tm x with
  | some v => some (.new (.ptr nx 0) (some (.cells (cellsOf v) t true true 0)))
  | none => none

def elemOf (T : Tabs) (t : Nat) : Option (Nat × TyI) := match T.ty t with
  | none => none
  | some i => match i.desc with
    | .slice e => (match T.ty e with
      | none => none
      | some j => some (e, j))
    | _ => none

def aBuildSlice (T : Tabs) (tm : PT AV) (nx t len : Nat) (parts : Array (Nat × Operand)) : Option OpR := match elemOf T t with
  | none => none
  | some (e, j) => bif Nat.ble (len * j.size) 16777216 then
      (match evalL tm (parts.toList.map (·.2)) with
      | none => none
      | some vs => repK len j.zero [] fun zs => match fillA (fun k => some (k * j.size, j.size)) zs ((parts.toList.map (·.1)).zip vs) with
        | some cs => some (.new (.slc nx 0 len (.known len)) (some (.cells cs e true true 0)))
        | none => none) else none

def aMakeSlice (T : Tabs) (tm : PT AV) (nx t : Nat) (l c : Operand) : Option OpR := match elemOf T t with
  | none => none
  | some (e, j) => match evalO tm l with
    | some (.int _ (.ofNat n)) => (match evalO tm c with
      | some (.int _ (.ofNat m)) => bif Nat.ble n m && Nat.ble (m * j.bytes) 1048576 && Nat.ble m 1048576 then
          repK m j.zero [] fun cs => some (.new (.slc nx 0 n (.known m)) (some (.cells cs e true true 0))) else none
      | _ => none)
    | _ => none

def aRange (T : Tabs) (tm : PT AV) (nx t : Nat) (x : Operand) : Option OpR := match T.ty t with
  | none => none
  | some i => match i.desc, evalO tm x with
    | .string, some (.str s) => some (.new (.ptr nx 0) (some (.siter s 0)))
    | _, _ => none

/-! ### Turning memory -/
def setObj (hp : Heap) (b : Nat) (o : AObj) : Option Heap := PT.setK hp b (some o) some

def heapV (v : AV) (nx : Nat) : Option Heap → Option OpR
  | some hp => some (.heap v hp nx)
  | none => none

def storeA (T : Tabs) (t : Nat) (p v : AV) (hp : Heap) : Option Heap :=
  match T.ty t with
  | none => none
  | some i => match p with
    | .ptr b o => (match hp.get b with
      | some (.cells cs e ex true u) =>
        let l := cellsOf v
        bif Nat.beq l.length i.size && allOne l then (match layOver cs o l with
          | none => none
          | some cs => setObj hp b (.cells cs e ex true u)) else none
      | _ => none)
    | _ => none

def aStore (T : Tabs) (tm : PT AV) (hp : Heap) (nx t : Nat) (a x : Operand) : Option OpR := match evalO tm a with
  | none => none
  | some p => match evalO tm x with
    | none => none
    | some v => heapV .undef nx (storeA T t p v hp)

def setVal : List (AV × AV × Nat) → Nat → AV → AV → List (AV × AV × Nat)
  | [], _, _, _ => []
  | (k, v, n) :: es, i, k', v' => match i with
    | 0 => (k', v', n) :: es
    | i + 1 => (k, v, n) :: setVal es i k' v'

def dropAt : List (AV × AV × Nat) → Nat → List (AV × AV × Nat)
  | [], _ => []
  | e :: es, i => match i with
    | 0 => es
    | i + 1 => e :: dropAt es i

def updateA (es : List (AV × AV × Nat)) (clock : Nat) (k v : AV) : Option AObj := match findA k es 0 with
  | none => none
  | some (some (i, _)) => some (.map (setVal es i k v) clock)
  | some none => appK es [(k, v, clock)] fun es => natK (clock + 1) fun c => some (.map es c)

def aMapUpdate (T : Tabs) (tm : PT AV) (hp : Heap) (nx t : Nat) (m k x : Operand) : Option OpR := match T.ty t with
  | none => none
  | some i => match i.desc with
    | .map kt _ => (match evalO tm m with
      | some (.map b) => (match hp.get b with
        | some (.map es clock) => (match evalO tm k with
          | none => none
          | some kv => match evalO tm x with
            | none => none
            | some v => bif keyOk T kt kv then
                (match updateA es clock kv v with
                | none => none
                | some o => heapV .undef nx (setObj hp b o)) else none)
        | _ => none)
      | _ => none)
    | _ => none

def aNext (tm : PT AV) (hp : Heap) (nx : Nat) (it : Operand) : Option OpR := match evalO tm it with
  | some (.ptr b 0) => (match hp.get b with
    | some (.siter s pos) => (match nth s pos with
      | none => some (.heap (.tup [.bool false]) hp nx)
      | some c => bif Nat.blt (c % 256) 128 then natK (pos + 1) (fun p => heapV (.tup [.bool true, .int .i64 (.ofNat pos), .int .i32 (.ofNat (c % 256))]) nx (setObj hp b (.siter s p))) else none)
    | _ => none)
  | _ => none

/-- n elements of a source of append or copy. -/
def srcCells (size n : Nat) (x : AV) (hp : Heap) : Option (List AV) := match x with
  | .nils => bif Nat.beq n 0 then some [] else none
  | .slc b o _ _ => cut hp b o (n * size) id
  | .str s => bif Nat.beq size 1 then takeK s n (fun r => match r with | none => none | some l => some (l.map fun c => .int .u8 (.ofNat (c % 256)))) else none
  | _ => none

def lenOf : AV → Option Nat
  | .nils => some 0
  | .emp _ => some 0
  | .slc _ _ n _ => some n
  | .str s => some (lenL s 0)
  | _ => none

/-- Bounds that keep off every limit. -/
def small (n bytes : Nat) : Bool := Nat.ble (n * bytes) 1048576 && Nat.ble n 1048576

/-- A new, open block that holds 'cs', n elements. -/
def newRow (hp : Heap) (nx e size n : Nat) (cs : List AV) : Option OpR := natK (nx + 1) fun nx' => heapV (.slc nx 0 n (.upto nx 0)) nx' (setObj hp nx (.cells cs e false true size))

def appendA (hp : Heap) (nx e : Nat) (j : TyI) (s : AV) (m : Nat) (new : List AV) : Option OpR := match s with
  | .nils => (match m with
    | 0 => some (.heap .nils hp nx)
    | m + 1 => bif small (m + 1) j.bytes then newRow hp nx e j.size (m + 1) new else none)
  | .slc b o len cap => natK (len + m) fun n => (match hp.get b with
    | some (.cells cs e' ex wr u) => bif Nat.beq e e' && small n j.bytes then
        (match cap with
        | .known k => bif Nat.blt k n then
            takeK (dropN cs o) (len * j.size) (fun r => match r with
            | none => none
            | some old => appK old new fun cs => newRow hp nx e j.size n cs)
          else
            (bif wr && allOne new then (match layOver cs (o + len * j.size) new with
              | none => none
              | some cs => heapV (.slc b o n cap) nx (setObj hp b (.cells cs e ex wr u))) else none)
        | .upto r i => bif Nat.beq r b && Nat.beq u j.size && Nat.beq o (i * u) && wr && (!ex) && allOne new then
            takeK (dropN cs o) (len * j.size) (fun r => match r with
            | none => none
            | some old => appK old new fun cs => PT.setK hp b none fun hp => newRow hp nx e j.size n cs) else none)
      else none
    | _ => none)
  | _ => none

def aAppend (T : Tabs) (tm : PT AV) (hp : Heap) (nx t : Nat) (args : List Operand) : Option OpR := match evalL tm args with
  | some [s, x] => (match elemOf T t with
    | none => none
    | some (e, j) => match lenOf x with
      | none => none
      | some m => bif Nat.beq j.size 0 then none else match srcCells j.size m x hp with
        | none => none
        | some new => appendA hp nx e j s m new)
  | _ => none

/-- What is appended is written as a slice or a string. -/
def noMake (T : Tabs) : List Nat → Bool
  | [] => true
  | x :: _ => match T.ty x with
    | none => false
    | some i => match i.desc with
      | .slice _ => true
      | .string => true
      | _ => false

def aCopy (T : Tabs) (tm : PT AV) (hp : Heap) (nx t : Nat) (args : List Operand) : Option OpR := match evalL tm args with
  | some [d, x] => (match elemOf T t with
    | none => none
    | some (_, j) => match lenOf d with
      | none => none
      | some dl => match lenOf x with
        | none => none
        | some sl => natK (bif Nat.ble sl dl then sl else dl) fun n => match srcCells j.size n x hp with
          | none => none
          | some new => match d with
            | .nils => some (.heap (.int .i64 (.ofNat n)) hp nx)
            | .slc b o _ _ => (match hp.get b with
              | some (.cells cs e' ex true u) => bif allOne new then (match layOver cs o new with
                | none => none
                | some cs => heapV (.int .i64 (.ofNat n)) nx (setObj hp b (.cells cs e' ex true u))) else none
              | _ => none)
            | _ => none)
  | _ => none

def aDelete (T : Tabs) (tm : PT AV) (hp : Heap) (nx t : Nat) (args : List Operand) : Option OpR := match evalL tm args with
  | some [.map b, k] => (match T.ty t with
    | none => none
    | some i => match i.desc with
      | .map kt _ => bif keyOk T kt k then (match hp.get b with
        | some (.map es clock) => (match findA k es 0 with
          | none => none
          | some none => some (.heap .undef hp nx)
          | some (some (i, _)) => heapV .undef nx (setObj hp b (.map (dropAt es i) clock)))
        | _ => none) else none
      | _ => none)
  | _ => none

def aUnsafeString (T : Tabs) (tm : PT AV) (hp : Heap) (nx t : Nat) (args : List Operand) : Option OpR := match evalL tm args with
  | some [.nilp, .int _ (.ofNat 0)] => some (.heap (.str []) hp nx)
  | some [.ptr b o, .int _ (.ofNat n)] => (match n with
    | 0 => some (.heap (.str []) hp nx)
    | n + 1 => (match hp.get b with
      | some (.cells cs e ex _ u) => (match T.ty e with
        | none => none
        | some j => match j.desc with
          | .int .u8 => (match T.ty t with
            | none => none
            | some pi => match pi.desc with
              | .ptr e' => bif Nat.beq e e' && Nat.beq j.size 1 && Nat.ble (n + 1) 1048576 then
                  takeK (dropN cs o) (n + 1) (fun r => match r with
                  | none => none
                  | some l => match byteCells l with
                    | none => none
                    | some s => heapV (.str s) nx (setObj hp b (.cells cs e ex false u))) else none
              | _ => none)
          | _ => none)
      | _ => none))
  | _ => none

/-! ### Builtins and calls -/
def lenA (T : Tabs) (hp : Heap) (t : Nat) (x : Option AV) : Option AV := match T.ty t with
  | none => none
  | some i => match i.desc, x with
    | .string, some (.str s) => natK (lenL s 0) fun n => some (.int .i64 (.ofNat n))
    | .slice _, some (.slc _ _ n _) => some (.int .i64 (.ofNat n))
    | .slice _, some .nils => some (.int .i64 0)
    | .slice _, some (.emp _) => some (.int .i64 0)
    | .array n _, some _ => some (.int .i64 (.ofNat n))
    | .map .., some .nilm => some (.int .i64 0)
    | .map .., some (.map b) => (match hp.get b with | some (.map es _) => natK (es.length) fun n => some (.int .i64 (.ofNat n)) | _ => none)
    | _, _ => none

def aMinMax (mx : Bool) : Option (List AV) → Option AV
  | some [.int k a, .int k' b] => bif kindEq k k' then some (.int k (bif (bif mx then ltI a b else ltI b a) then b else a)) else none
  | _ => none

def aSliceData : Option (List AV) → Option AV
  | some [.nils] => some .nilp
  | some [.slc b o (_ + 1) _] => some (.ptr b o)
  | _ => none

def aBuiltin (T : Tabs) (tm : PT AV) (hp : Heap) (nx : Nat) (b : Builtin) (ts : List Nat) (args : List Operand) : Option OpR := match ts with
  | [] => none
  | t :: more => match b with
    | .len => (match args with | x :: _ => ofVal (lenA T hp t (evalO tm x)) | [] => none)
    | .min => ofVal (aMinMax false (evalL tm args))
    | .max => ofVal (aMinMax true (evalL tm args))
    | .unsafeSliceData => ofVal (aSliceData (evalL tm args))
    | .append => bif noMake T more then aAppend T tm hp nx t args else none
    | .copy => aCopy T tm hp nx t args
    | .delete => aDelete T tm hp nx t args
    | .unsafeString => aUnsafeString T tm hp nx t args
    | _ => none

/-- What a call of a function without a body here hands back. -/
def extA : Ext → List AV → Option AV
  | .same, [x] => some x
  | .count, [.str s, .int .u8 (.ofNat c)] => natK ((s.filter fun x => Nat.beq (x % 256) (c % 256)).length) fun n => some (.int .i64 (.ofNat n))
  | .cmp, [.str a, .str b] => some (.int .i64 (bif ltL a b then -1 else bif ltL b a then 1 else 0))
  | _, _ => none

def aCallFn (T : Tabs) (fn : Nat) (args : List AV) : Option OpR := match T.ext fn with
  | some e => ofVal (extA e args)
  | none => some (.call fn args)

def aCall (T : Tabs) (tm : PT AV) (hp : Heap) (nx : Nat) (c : Call) : Option OpR := match c.callee with
  | .builtin b => aBuiltin T tm hp nx b c.argTypes.toList c.args.toList
  | .value g => (match evalO tm g with
    | some (.func fn caps) => (match evalL tm c.args.toList with
      | none => none
      | some args => appK args caps fun args => aCallFn T fn args)
    | some (.yld l) => (match evalL tm c.args.toList with
      | none => none
      | some args => some (.round l args))
    | _ => none)
  | .invoke .. => none

/-- AN OPERATION. -/
def aop (T : Tabs) (op : Op) (tm : PT AV) (hp : Heap) (nx : Nat) : Option OpR := match op with
  | .move x | .assign x => ofVal (evalO tm x)
  | .pick c a b => ofVal (aPick tm c a b)
  | .nilCheck x => ofVal (aNilCheck tm x)
  | .binOp op t x y _ => ofVal (aBin T tm op t x y)
  | .unOp op _ x => ofVal (aUn tm op x)
  | .makeInterface t x => ofVal (aMakeIface T tm t x)
  | .makeFunc fn first caps => ofVal (aMakeFunc tm fn first caps)
  | .fieldAddr s x f => ofVal (aFieldAddr T tm s x f)
  | .field s x f => ofVal (aField T tm s x f)
  | .indexAddr t x ix => ofVal (aIndexAddr T tm t x ix)
  | .index t x ix => ofVal (aIndex T tm t x ix)
  | .extract x ix => ofVal (aExtract tm x ix)
  | .build t parts => ofVal (aBuild T tm t parts)
  | .slice t x lo hi mx => aSlice T tm nx t x lo hi mx
  | .load t x => ofVal (aLoad T tm hp t x)
  | .lookup t m k ok => ofVal (aLookup T tm hp t m k ok)
  | .convert s d x => aConvert T tm hp nx s d x
  | .alloc t => aAlloc T nx t
  | .box t x => aBox tm nx t x
  | .buildSlice t len parts => aBuildSlice T tm nx t len parts
  | .makeSlice t l c => aMakeSlice T tm nx t l c
  | .makeMap _ none => some (.new (.map nx) (some (.map [] 0)))
  | .range t x => aRange T tm nx t x
  | .store t a x => aStore T tm hp nx t a x
  | .mapUpdate t m k x | .insert t m k x => aMapUpdate T tm hp nx t m k x
  | .next it true => aNext tm hp nx it
  | .call c => aCall T tm hp nx c
  | _ => none

/-! ### A map's keys, sorted -/
def insertS (x : List Nat) : List (List Nat) → List (List Nat)
  | [] => [x]
  | y :: ys => bif ltL y x then y :: insertS x ys else x :: y :: ys

def sortedKeys : List (AV × AV × Nat) → Option (List (List Nat))
  | [] => some []
  | (.str k, _, _) :: es => (match sortedKeys es with | some r => some (insertS k r) | none => none)
  | _ => none

def strCells {β : Type} : List (List Nat) → (List AV → β) → β
  | [], c => c []
  | x :: xs, c => strCells xs fun r => c (.str x :: r)

/-! ### Code -/
inductive X where
  | normal | exit (id : Nat) | goto (l : Nat) | ret

/-- What is to be done. 'ro': the loop whose round it is. -/
inductive Task where
  | code (ro : Option Nat) (c : Code) (sz : Nat) (tm : PT AV) (hp : Heap) (nx : Nat)
  | loop (ro : Option Nat) (b : Code) (k : Nat) (sz : Nat) (tm : PT AV) (hp : Heap) (nx : Nat)
  | scope (ro : Option Nat) (b cur : Code) (k : Nat) (sz : Nat) (tm : PT AV) (hp : Heap) (nx : Nat)
  | ops (ops : Array Oper) (l : List Oper) (sz : Nat) (tm : PT AV) (hp : Heap) (nx : Nat)
  | call (fn : Nat) (args : List AV) (hp : Heap) (nx : Nat)
  | round (l : Nat) (args : List AV) (hp : Heap) (nx : Nat)

/-- What it came to: the way out of the code, its slots, the heap, the next number; of a call: the value. -/
inductive Res where
  | out (x : X) (tm : PT AV) (hp : Heap) (nx : Nat)
  | val (v : AV) (hp : Heap) (nx : Nat)

def putTm (tm : PT AV) (sz : Nat) (d : Option Tmp) (v : AV) : Option (PT AV) := match d with
  | none => some tm
  | some d => bif Nat.blt d sz then PT.setK tm d (some v) some else none

def layArgs (sz : Nat) : PT AV → List Tmp → List AV → Option (PT AV)
  | tm, [], [] => some tm
  | tm, t :: ts, v :: vs => (match putTm tm sz (some t) v with
    | some tm => layArgs sz tm ts vs
    | none => none)
  | _, _, _ => none

def readRes (T : Tabs) (tm : PT AV) (hp : Heap) : List ResultVar → Option (List AV)
  | [] => some []
  | .tmp t :: rs => (match readRes T tm hp rs with | some vs => some (rdTmp tm t :: vs) | none => none)
  | .cell a t :: rs => (match loadA T t (rdTmp tm a) hp with
    | none => none
    | some v => match readRes T tm hp rs with | some vs => some (v :: vs) | none => none)

def oneOf : List AV → AV
  | [v] => v
  | vs => .tup vs

def argsTm : List AV → Nat → PT AV → PT AV
  | [], _, t => t
  | v :: vs, i, t => PT.setK t i (some v) fun t => argsTm vs (i + 1) t

def wantedA (ops : Array Oper) (tm : PT AV) (g : Option (Nat × Bool)) : Bool := match g with
  | none => true
  | some (j, want) => match (ops[j]?).bind (·.dst) with
    | none => false
    | some t => match rdTmp tm t with
      | .bool b => beqB b want
      | _ => false

def toJump : X → Jump
  | .normal => .none
  | .exit id => .exit id
  | .goto l => .goto l
  | .ret => .ret

def ofJump : Jump → X
  | .none => .normal
  | .exit id => .exit id
  | .goto l => .goto l
  | .ret => .ret

/-- Each of these before all behind it. -/
def incrS : List (List Nat) → Bool
  | [] => true
  | x :: xs => xs.all (fun y => ltL x y) && incrS xs

def bornsOk : List (AV × AV × Nat) → Nat → Bool
  | [], _ => true
  | e :: es, c => Nat.blt e.2.2 c && es.all (fun e' => !Nat.beq e'.2.2 e.2.2) && bornsOk es c

/-- slices.Sorted of maps.Keys of a map: the map's keys. -/
def sortedA (T : Tabs) (args : List AV) (hp : Heap) (nx : Nat) : Option Res :=
  match args with
  | [.func f [.ptr b 0]] => bif Nat.beq f T.keysOf then (match hp.get b with
    | some (.cells [.map m] _ true _ _) => (match hp.get m with
      | some (.map es clock) => bif bornsOk es clock && Nat.ble (lenL es 0) 1048576 then (match sortedKeys es with
        | none => none
        | some ks => bif incrS ks && ks.all (fun k => Nat.ble (lenL k 0) 1048576) then (match ks with
          | [] => some (.val .nils hp nx)
          | k :: ks => strCells (k :: ks) fun cs => match setObj hp nx (.cells cs T.strT false true 1) with
            | some hp => natK (lenL (k :: ks) 0) fun n => natK (nx + 1) fun nx' => some (.val (.slc nx 0 n (.upto nx 0)) hp nx')
            | none => none) else none) else none
      | _ => none)
    | _ => none) else none
  | _ => none

def doSeq (rec : Task → Option Res) (ro : Option Nat) (a b : Code) (sz : Nat) (tm : PT AV) (hp : Heap) (nx : Nat) : Option Res :=
  match rec (.code ro a sz tm hp nx) with
  | some (.out .normal tm hp nx) => rec (.code ro b sz tm hp nx)
  | r => r

def doCond (rec : Task → Option Res) (ro : Option Nat) (c : Operand) (a b : Code) (sz : Nat) (tm : PT AV) (hp : Heap) (nx : Nat) : Option Res :=
  match evalO tm c with
  | some (.bool true) => rec (.code ro a sz tm hp nx)
  | some (.bool false) => rec (.code ro b sz tm hp nx)
  | _ => none

def doBlock (rec : Task → Option Res) (ro : Option Nat) (id : Nat) (b : Code) (sz : Nat) (tm : PT AV) (hp : Heap) (nx : Nat) : Option Res :=
  match rec (.code ro b sz tm hp nx) with
  | some (.out (.exit id') tm hp nx) => bif Nat.beq id' id then some (.out .normal tm hp nx) else some (.out (.exit id') tm hp nx)
  | r => r

/-- At most 2^k rounds of a loop; 'normal': all of them were done, and it goes on. -/
def doLoop (rec : Task → Option Res) (ro : Option Nat) (b : Code) (k : Nat) (sz : Nat) (tm : PT AV) (hp : Heap) (nx : Nat) : Option Res :=
  match k with
  | 0 => rec (.code ro b sz tm hp nx)
  | k + 1 => match rec (.loop ro b k sz tm hp nx) with
    | some (.out .normal tm hp nx) => rec (.loop ro b k sz tm hp nx)
    | r => r

/-- The whole of a loop: it does not go on for ever. -/
def wholeLoop (rec : Task → Option Res) (ro : Option Nat) (b : Code) (sz : Nat) (tm : PT AV) (hp : Heap) (nx : Nat) : Option Res :=
  match rec (.loop ro b 16 sz tm hp nx) with
  | some (.out .normal _ _ _) => none
  | r => r

/-- A scope from 'cur' on: at most 2^k pieces between jumps back. -/
def doScope (rec : Task → Option Res) (ro : Option Nat) (b cur : Code) (k : Nat) (sz : Nat) (tm : PT AV) (hp : Heap) (nx : Nat) : Option Res :=
  match k with
  | 0 => rec (.code ro cur sz tm hp nx)
  | k + 1 => match rec (.scope ro b cur k sz tm hp nx) with
    | some (.out (.goto l) tm hp nx) => (match findLabel b l with
      | some rest => rec (.scope ro b rest k sz tm hp nx)
      | none => some (.out (.goto l) tm hp nx))
    | r => r

def wholeScope (rec : Task → Option Res) (ro : Option Nat) (b : Code) (sz : Nat) (tm : PT AV) (hp : Heap) (nx : Nat) : Option Res :=
  match rec (.scope ro b b 16 sz tm hp nx) with
  | some (.out (.goto l) tm hp nx) => (match findLabel b l with
    | some _ => none
    | none => some (.out (.goto l) tm hp nx))
  | r => r

/-- An operation's value is put; on with the others. -/
def nextOp (rec : Task → Option Res) (ops : Array Oper) (d : Option Tmp) (rest : List Oper) (sz : Nat) (tm : PT AV) (v : AV) (hp : Heap) (nx : Nat) : Option Res :=
  match putTm tm sz d v with
  | none => none
  | some tm => rec (.ops ops rest sz tm hp nx)

/-- What an operation comes to, its call (or round) run. -/
def runR (rec : Task → Option Res) (r : OpR) (hp : Heap) (nx : Nat) : Option (AV × Heap × Nat) := match r with
  | .val v => some (v, hp, nx)
  | .new v none => natK (nx + 1) fun nx => some (v, hp, nx)
  | .new v (some ob) => (match setObj hp nx ob with
    | none => none
    | some hp => natK (nx + 1) fun nx => some (v, hp, nx))
  | .heap v hp' nx' => bif Nat.ble nx nx' then some (v, hp', nx') else none
  | .call f args => (match rec (.call f args hp nx) with
    | some (.val v hp nx) => some (v, hp, nx)
    | _ => none)
  | .round l args => (match rec (.round l args hp nx) with
    | some (.val v hp nx) => some (v, hp, nx)
    | _ => none)

def doOp (T : Tabs) (rec : Task → Option Res) (ops : Array Oper) (o : Oper) (rest : List Oper) (sz : Nat) (tm : PT AV) (hp : Heap) (nx : Nat) : Option Res :=
  match aop T o.op tm hp nx with
  | none => none
  | some r => match runR rec r hp nx with
    | none => none
    | some (v, hp, nx) => nextOp rec ops o.dst rest sz tm v hp nx

def doOps (T : Tabs) (rec : Task → Option Res) (ops : Array Oper) (l : List Oper) (sz : Nat) (tm : PT AV) (hp : Heap) (nx : Nat) : Option Res :=
  match l with
  | [] => some (.out .normal tm hp nx)
  | o :: rest => bif wantedA ops tm o.guard then doOp T rec ops o rest sz tm hp nx else nextOp rec ops o.dst rest sz tm .undef hp nx

def doBodyOf (T : Tabs) (rec : Task → Option Res) (fn : Nat) (args : List AV) (hp : Heap) (nx : Nat) : Option Res :=
  match nth T.funcs fn with
  | none => none
  | some i => match i.body with
    | none => none
    | some c => match rec (.code none c (bif Nat.ble args.length i.ntmps then i.ntmps else args.length) (argsTm args 0 .leaf) hp nx) with
      | some (.out .normal tm hp nx) | some (.out .ret tm hp nx) => (match readRes T tm hp i.results.toList with
        | some vs => some (.val (oneOf vs) hp nx)
        | none => none)
      | _ => none

def eqNats : List Nat → List Nat → Bool
  | [], [] => true
  | x :: xs, y :: ys => bif Nat.beq x y then eqNats xs ys else false
  | _, _ => false

def eqCap : ACap → ACap → Bool
  | .known a, .known b => Nat.beq a b
  | .upto a b, .upto c d => Nat.beq a c && Nat.beq b d
  | _, _ => false

/-- Are two the same? (Where nothing lies in them.) -/
def eq1 : AV → AV → Bool
  | .bool a, .bool b => beqB a b
  | .int k a, .int k' b => kindEq k k' && eqI a b
  | .str a, .str b => eqNats a b
  | .ptr a b, .ptr c d => Nat.beq a c && Nat.beq b d
  | .nilp, .nilp => true
  | .gptr a, .gptr b => Nat.beq a b
  | .slc a b c d, .slc a' b' c' d' => Nat.beq a a' && Nat.beq b b' && Nat.beq c c' && eqCap d d'
  | .nils, .nils => true
  | .map a, .map b => Nat.beq a b
  | .yld a, .yld b => Nat.beq a b
  | .emp a, .emp b => Nat.beq a b
  | .nilm, .nilm => true
  | .nilf, .nilf => true
  | .nili, .nili => true
  | .atom a, .atom b => Nat.beq a b
  | _, _ => false

def eq1s : List AV → List AV → Bool
  | [], [] => true
  | x :: xs, y :: ys => bif eq1 x y then eq1s xs ys else false
  | _, _ => false

/-- Are two the same? -/
def eqAV : AV → AV → Bool
  | .agg a, .agg b => eq1s a b
  | .tup a, .tup b => eq1s a b
  | .func f a, .func g b => Nat.beq f g && eq1s a b
  | .iface t a, .iface u b => Nat.beq t u && eq1 a b
  | a, b => eq1 a b

def eqAVs : List AV → List AV → Bool
  | [], [] => true
  | x :: xs, y :: ys => bif eqAV x y then eqAVs xs ys else false
  | _, _ => false

def eqEs : List (AV × AV × Nat) → List (AV × AV × Nat) → Bool
  | [], [] => true
  | (k, v, n) :: xs, (k', v', n') :: ys => bif eqAV k k' && eqAV v v' && Nat.beq n n' then eqEs xs ys else false
  | _, _ => false

def eqObj : AObj → AObj → Bool
  | .cells cs e ex wr u, .cells cs' e' ex' wr' u' => Nat.beq e e' && beqB ex ex' && beqB wr wr' && Nat.beq u u' && eqAVs cs cs'
  | .map es c, .map es' c' => Nat.beq c c' && eqEs es es'
  | .siter s k, .siter s' k' => Nat.beq k k' && eqNats s s'
  | _, _ => false

/-- All of these lie in the heap. -/
def hasAll (hp : Heap) : List (Nat × AObj) → Bool
  | [] => true
  | (n, ob) :: l => match hp.get n with
    | some ob' => bif eqObj ob' ob then hasAll hp l else false
    | none => false

def dropAll {β : Type} : List (Nat × AObj) → Heap → (Heap → β) → β
  | [], hp, c => c hp
  | (n, _) :: l, hp, c => PT.setK hp n none fun hp => dropAll l hp c

def layAll {β : Type} : List (Nat × AObj) → Heap → (Heap → β) → β
  | [], hp, c => c hp
  | (n, ob) :: l, hp, c => PT.setK hp n (some ob) fun hp => layAll l hp c

def hookA : List Hook → Nat → List AV → Heap → Nat → Option Res
  | [], _, _, _, _ => none
  | h :: hs, fn, args, hp, nx => bif Nat.beq h.fn fn && (Nat.beq h.nx nx && (eqAVs h.args args && hasAll hp h.pre)) then
      dropAll h.pre hp fun hp => layAll h.post hp fun hp => some (.val h.v hp h.nx')
    else hookA hs fn args hp nx

def memoA (T : Tabs) (fn : Nat) (args : List AV) : Option AV := match args with
  | [] => T.memo.get fn
  | _ => none

def doCall (T : Tabs) (rec : Task → Option Res) (fn : Nat) (args : List AV) (hp : Heap) (nx : Nat) : Option Res :=
  match memoA T fn args with
  | some v => some (.val v hp nx)
  | none => match hookA T.hooks fn args hp nx with
    | some r => some r
    | none => bif Nat.beq fn T.sorted then sortedA T args hp nx else doBodyOf T rec fn args hp nx

/-- A round behind its assignments: the record is busy; the body; the record again. -/
def doBody (rec : Task → Option Res) (l : Nat) (body : Code) (sz : Nat) (tm : PT AV) (hp : Heap) (nx : Nat) : Option Res :=
  match hp.get l with
  | some (.loop .ready p tm0 sz0 ps as bd d) => (match setObj hp l (.loop .busy p tm0 sz0 ps as bd d) with
    | none => none
    | some hp => match rec (.code (some l) body sz tm hp nx) with
      | some (.out x _ hp nx) => (match hp.get l with
        | some (.loop _ _ tm0 sz0 ps as bd d) => (match x with
          | .normal => (match setObj hp l (.loop .ready .none tm0 sz0 ps as bd d) with
            | some hp => some (.val (.bool true) hp nx)
            | none => none)
          | x => (match setObj hp l (.loop .done (toJump x) tm0 sz0 ps as bd d) with
            | some hp => some (.val (.bool false) hp nx)
            | none => none))
        | _ => none)
      | _ => none)
  | _ => none

def doRound (rec : Task → Option Res) (l : Nat) (args : List AV) (hp : Heap) (nx : Nat) : Option Res :=
  match hp.get l with
  | some (.loop _ _ tm sz ps assign body _) => (match layArgs sz tm ps.toList args with
    | none => none
    | some tm1 => match rec (.code (some l) assign sz tm1 hp nx) with
      | some (.out .normal tm2 hp nx) => doBody rec l body sz tm2 hp nx
      | _ => none)
  | _ => none

/-- The block for the deferred calls of a loop's rounds. -/
def dfrOf (ro : Option Nat) (hp : Heap) (nx : Nat) : Option (Nat × Heap × Nat) := match ro with
  | some l0 => (match hp.get l0 with
    | some (.loop _ _ _ _ _ _ _ d) => some (d, hp, nx)
    | _ => none)
  | none => natK (nx + 1) fun nx' => some (nx, hp, nx')

def doRangeEnd (l : Nat) (tm : PT AV) (hp : Heap) (nx : Nat) : Option Res := match hp.get l with
  | some (.loop st p tm0 sz0 ps as bd d) => (match st with
    | .busy => none
    | _ => match setObj hp l (.loop .exhausted p tm0 sz0 ps as bd d) with
      | none => none
      | some hp => some (.out (ofJump p) tm hp nx))
  | _ => none

def doRange (T : Tabs) (rec : Task → Option Res) (ro : Option Nat) (g : Operand) (ps : Array Tmp) (assign body : Code) (sz : Nat) (tm : PT AV) (hp : Heap) (nx : Nat) : Option Res :=
  match dfrOf ro hp nx with
  | none => none
  | some (d, hp, l) => match setObj hp l (.loop .ready .none tm sz ps assign body d) with
    | none => none
    | some hp => match evalO tm g with
      | some (.func fn caps) => (match T.ext fn with
        | some _ => none
        | none => natK (l + 1) fun nx => match rec (.call fn (.yld l :: caps) hp nx) with
          | some (.val _ hp nx) => doRangeEnd l tm hp nx
          | _ => none)
      | _ => none

/-! ### Regions that draw their order -/
inductive Kind where
  | pure | read | make | eff

/-- 'pure': the same in every heap · 'read': looks at the heap · 'make': a new block, whatever the heap · 'eff': all others. -/
def kindOp (T : Tabs) : Op → Kind
  | .move _ | .pick .. | .nilCheck _ | .binOp .. | .unOp .. | .makeInterface .. | .makeFunc .. | .fieldAddr .. | .field .. | .indexAddr .. | .index .. | .extract .. | .build .. => .pure
  | .load .. | .lookup .. => .read
  | .alloc _ | .box .. | .buildSlice .. | .makeSlice .. | .makeMap .. | .range .. => .make
  | .slice t .. => (match T.ty t with
    | none => .eff
    | some i => match i.desc with
      | .string => .pure
      | .slice _ => .make
      | _ => .eff)
  | .convert s d _ => (match T.ty s with
    | none => .eff
    | some si => match T.ty d with
      | none => .eff
      | some di => match si.desc, di.desc with
        | .int _, .int _ => .pure
        | .string, .string => .pure
        | .slice _, .string => .read
        | .string, .slice _ => .make
        | _, _ => .eff)
  | .call c => (match c.callee with
    | .builtin .len => .read
    | .builtin .min | .builtin .max | .builtin .unsafeSliceData => .pure
    | _ => .eff)
  | _ => .eff

def isEff : Kind → Bool
  | .eff => true
  | _ => false
def isRead : Kind → Bool
  | .read => true
  | _ => false
def isMake : Kind → Bool
  | .make => true
  | _ => false

/-- The operations that are asked for ahead of one, as bits. -/
def maskL : List Edge → Nat → Nat
  | [], m => m
  | e :: es, m => bif Region.binds .any e then maskL es (Nat.lor m (2 ^ e.on)) else maskL es m

structure WS where
  i : Nat
  o : Oper
  m : Nat

structure DStep where
  i : Nat
  o : Oper
  eff : Bool
  reads : List Oper
  isl : List Oper

def bitAt (m i : Nat) : Bool := Nat.beq (Nat.land m (2 ^ i)) (2 ^ i)
def subMask (m l : Nat) : Bool := Nat.beq (Nat.land m l) m
def readyAt (l : Nat) (x : WS) : Bool := !bitAt l x.i && subMask x.m l

def allOps : List Oper → Nat → List WS
  | [], _ => []
  | o :: os, i => ⟨i, o, maskL o.after.toList 0⟩ :: allOps os (i + 1)

def firstNon (T : Tabs) (l : Nat) : List WS → Option WS
  | [] => none
  | x :: xs => bif readyAt l x && !isEff (kindOp T x.o.op) then some x else firstNon T l xs

def readyOnes (l : Nat) : List WS → List WS
  | [] => []
  | x :: xs => bif readyAt l x then x :: readyOnes l xs else readyOnes l xs

/-- Those of W (the newest first) that may still stand out when an operation that asks for 'need' is run. -/
def prune : List WS → Nat → List WS
  | [], _ => []
  | x :: xs, need => bif bitAt need x.i then prune xs (Nat.lor need x.m) else x :: prune xs need

def inL : List Nat → Nat → Bool
  | [], _ => false
  | x :: xs, n => bif Nat.beq x n then true else inL xs n

def dstIn (o : Oper) (l : List Tmp) : Bool := match o.dst with
  | none => false
  | some d => inL l d
def sameDst (o o' : Oper) : Bool := match o.dst, o'.dst with
  | some d, some d' => Nat.beq d d'
  | _, _ => false

def okNon (ops : Array Oper) (c : WS) (W : List WS) : Bool :=
  (match c.o.dst with | some _ => true | none => false) && !dstIn c.o (c.o.looksAt ops) && W.all fun x => (!dstIn x.o (c.o.looksAt ops) || bitAt c.m x.i) && !dstIn c.o (x.o.looksAt ops) && !sameDst c.o x.o
def okEff (ops : Array Oper) (c : WS) (W : List WS) : Bool :=
  W.all fun x => !dstIn x.o (c.o.looksAt ops) && !dstIn c.o (x.o.looksAt ops) && !sameDst c.o x.o

def isSlice : Op → Bool
  | .slice .. => true
  | _ => false

def readsOf (T : Tabs) : List WS → List Oper
  | [] => []
  | x :: xs => bif isRead (kindOp T x.o.op) then x.o :: readsOf T xs else readsOf T xs
def islOf (T : Tabs) : List WS → List Oper
  | [] => []
  | x :: xs => bif isMake (kindOp T x.o.op) && !isSlice x.o.op then x.o :: islOf T xs else islOf T xs

/-- The order in which a region's operations are taken; none: this way does not do for it. -/
def planGo (T : Tabs) (ops : Array Oper) (all : List WS) : Nat → Nat → List WS → Option (List DStep)
  | 0, _, _ => none
  | f + 1, l, W => match firstNon T l all with
    | some c => bif okNon ops c W then (match planGo T ops all f (Nat.lor l (2 ^ c.i)) (c :: W) with
      | some r => some (⟨c.i, c.o, false, [], []⟩ :: r)
      | none => none) else none
    | none => match readyOnes l all with
      | [] => bif all.all (fun x => bitAt l x.i) then some [] else none
      | [c] => let kept := prune W c.m
        bif okEff ops c kept then (match planGo T ops all f (Nat.lor l (2 ^ c.i)) kept with
        | some r => some (⟨c.i, c.o, true, readsOf T kept, islOf T kept⟩ :: r)
        | none => none) else none
      | _ => none

def planOf (T : Tabs) (ops : Array Oper) : Option (List DStep) := planGo T ops (allOps ops.toList 0) (ops.size + 1) 0 []

def ment : AV → Option Nat
  | .ptr b _ => some b
  | .slc b _ _ _ => some b
  | .map b => some b
  | _ => none

/-- What such an operation has made is taken out of the heap. -/
def carve (tm : PT AV) : List Oper → Heap → List (Nat × AObj) → Heap × List (Nat × AObj)
  | [], hp, sv => (hp, sv)
  | o :: os, hp, sv => match o.dst with
    | none => carve tm os hp sv
    | some d => match ment (rdTmp tm d) with
      | none => carve tm os hp sv
      | some n => match hp.get n with
        | none => carve tm os hp sv
        | some ob => PT.setK hp n none fun hp => carve tm os hp ((n, ob) :: sv)

def restore : List (Nat × AObj) → Heap → Heap
  | [], hp => hp
  | (n, ob) :: sv, hp => PT.setK hp n (some ob) fun hp => restore sv hp

def restoreK {β : Type} : List (Nat × AObj) → Heap → (Heap → β) → β
  | [], hp, c => c hp
  | (n, ob) :: sv, hp, c => PT.setK hp n (some ob) fun hp => restoreK sv hp c

/-- Each of these, done again, comes to what its slot holds. -/
def recheck (T : Tabs) (ops : Array Oper) (tm : PT AV) (hp : Heap) (nx : Nat) : List Oper → Bool
  | [] => true
  | o :: os => bif wantedA ops tm o.guard then
      (match o.dst, aop T o.op tm hp nx with
      | some d, some (.val v) => bif eqAV v (rdTmp tm d) then recheck T ops tm hp nx os else false
      | _, _ => false) else recheck T ops tm hp nx os

def dEff (T : Tabs) (rec : Task → Option Res) (ops : Array Oper) (s : DStep) (sz : Nat) (tm : PT AV) (hp : Heap) (nx : Nat) (next : PT AV → Heap → Nat → Option Res) : Option Res :=
  match carve tm s.isl hp [] with
  | (hp, sv) => match aop T s.o.op tm hp nx with
    | none => none
    | some r => match runR rec r hp nx with
      | none => none
      | some (v, hp, nx) => match putTm tm sz s.o.dst v with
        | none => none
        | some tm => restoreK sv hp fun hp => bif recheck T ops tm hp nx s.reads then next tm hp nx else none

def dNon (T : Tabs) (s : DStep) (sz : Nat) (tm : PT AV) (hp : Heap) (nx : Nat) (next : PT AV → Heap → Nat → Option Res) : Option Res :=
  match aop T s.o.op tm hp nx with
  | some (.val v) => (match putTm tm sz s.o.dst v with | none => none | some tm => next tm hp nx)
  | some (.new v none) => (match putTm tm sz s.o.dst v with | none => none | some tm => natK (nx + 1) fun nx => next tm hp nx)
  | some (.new v (some ob)) => (match putTm tm sz s.o.dst v with
    | none => none
    | some tm => match setObj hp nx ob with
      | none => none
      | some hp => natK (nx + 1) fun nx => next tm hp nx)
  | _ => none

def dSteps (T : Tabs) (rec : Task → Option Res) (ops : Array Oper) (sz : Nat) : List DStep → PT AV → Heap → Nat → Option Res
  | [], tm, hp, nx => some (.out .normal tm hp nx)
  | s :: ss, tm, hp, nx => bif wantedA ops tm s.o.guard then
      (bif s.eff then dEff T rec ops s sz tm hp nx (dSteps T rec ops sz ss) else dNon T s sz tm hp nx (dSteps T rec ops sz ss))
    else (match putTm tm sz s.o.dst .undef with
      | none => none
      | some tm => dSteps T rec ops sz ss tm hp nx)

def doDrawn (T : Tabs) (rec : Task → Option Res) (ops : Array Oper) (sz : Nat) (tm : PT AV) (hp : Heap) (nx : Nat) : Option Res :=
  match planOf T ops with
  | none => none
  | some ss => dSteps T rec ops sz ss tm hp nx

def doCode (T : Tabs) (rec : Task → Option Res) (ro : Option Nat) (c : Code) (sz : Nat) (tm : PT AV) (hp : Heap) (nx : Nat) : Option Res := match c with
  | .skip | .label _ => some (.out .normal tm hp nx)
  | .exit id => some (.out (.exit id) tm hp nx)
  | .goto l => some (.out (.goto l) tm hp nx)
  | .ret => some (.out .ret tm hp nx)
  | .seq a b => doSeq rec ro a b sz tm hp nx
  | .cond c a b => doCond rec ro c a b sz tm hp nx
  | .block id b => doBlock rec ro id b sz tm hp nx
  | .loop b => wholeLoop rec ro b sz tm hp nx
  | .scope b => wholeScope rec ro b sz tm hp nx
  | .region _ ops draw => bif draw then doDrawn T rec ops sz tm hp nx else rec (.ops ops ops.toList sz tm hp nx)
  | .rangeFunc g ps assign body => doRange T rec ro g ps assign body sz tm hp nx
  | .refuse _ => none

def doTask (T : Tabs) (rec : Task → Option Res) : Task → Option Res
  | .code ro c sz tm hp nx => doCode T rec ro c sz tm hp nx
  | .loop ro b k sz tm hp nx => doLoop rec ro b k sz tm hp nx
  | .scope ro b cur k sz tm hp nx => doScope rec ro b cur k sz tm hp nx
  | .ops ops l sz tm hp nx => doOps T rec ops l sz tm hp nx
  | .call fn args hp nx => doCall T rec fn args hp nx
  | .round l args hp nx => doRound rec l args hp nx

/-- THE EVALUATOR. -/
def run (T : Tabs) : Nat → Task → Option Res
  | 0, _ => none
  | f + 1, t => doTask T (run T f) t

end Go.Ev
