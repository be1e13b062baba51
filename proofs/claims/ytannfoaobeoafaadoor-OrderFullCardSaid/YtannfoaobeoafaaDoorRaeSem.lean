/- The abstract machine: abstract values, heaps, an intermediate code, and its deterministic evaluator. Nothing of the program or of the model's memory stands here. -/
import GoSem.Core.Value
import GoSem.Core.Ast
import GoSem.Core.View
import GoSem.Core.Utf8
set_option linter.unusedVariables false
set_option linter.unusedSimpArgs false
namespace Go.Rae

/-- A shape: a cell of data (number 0), a cell that may hold a reference (number 1), a struct, an array, the root of a slice's array. -/
inductive Sh where
  | data
  | ref
  | str (fs : List Nat)
  | arr (n e : Nat)
  | dyn (e : Nat)
  deriving DecidableEq, Inhabited

/-- Abstract values. A reference names an object and its stamp. -/
inductive V where
  | b (x : Bool)
  | i (k : IntKind) (n : Int)
  | s (l : List UInt8)
  | agg (sh : Nat) (l : List V)
  | tup (l : List V)
  | nilp
  | ptr (id st : Nat) (path : List Nat) (sh : Nat)
  | nilsl
  | sl (id st : Nat) (path : List Nat) (e off len : Nat) (cap : Option Nat)
  | nilm
  | mp (id : Nat)
  | nilc
  | ch (id : Nat)
  | nilf
  | fn (f : Nat) (caps : List V)
  | nili
  | ifc (t : Nat) (x : V)
  | top
  | sym (k : IntKind) (id : Nat)
  deriving Inhabited

/-- Shapes 0 to 10: bools, references, texts, the eight kinds of integers. -/
def kindNo : IntKind → Nat
  | .i8 => 3 | .i16 => 4 | .i32 => 5 | .i64 => 6 | .u8 => 7 | .u16 => 8 | .u32 => 9 | .u64 => 10

def V.sh : V → Nat
  | .b _ => 0
  | .s _ => 2
  | .i k _ => kindNo k
  | .agg k _ => k
  | .tup _ => 65535
  | _ => 1

/-- One cell, and no function or interface value with something in it. -/
def V.sc0 : V → Bool
  | .b _ | .i _ _ | .s _ | .nilp | .ptr .. | .nilsl | .sl .. | .nilm | .mp _ | .nilc | .ch _ | .nilf | .nili | .top | .sym .. => true
  | _ => false

def V.isTup : V → Bool
  | .tup _ => true
  | _ => false

def V.slOf (e : Nat) : V → Bool
  | .nilsl => true
  | .sl _ _ _ e' _ _ _ => e' == e
  | _ => false

def unit : V := .tup []

mutual
def veq : V → V → Bool
  | .b x, .b y => x == y
  | .i _ x, .i _ y => x == y
  | .s x, .s y => x == y
  | .agg _ l, .agg _ m => veqs l m
  | _, _ => false
def veqs : List V → List V → Bool
  | [], [] => true
  | x :: l, y :: m => veq x y && veqs l m
  | _, _ => false
end

inductive Obj where
  | cells (v : V) (grow ro : Bool)
  | map (es : List (V × V × Nat)) (clock : Nat)
  | chan (cap : Nat) (buf : List V) (closed : Bool) (s r : Nat)
  | iter (s : List UInt8) (pos : Nat)
  deriving Inhabited

/-- A heap: how many objects there are; they, the newest first. -/
structure H where
  n : Nat
  l : List Obj
  deriving Inhabited

def H.empty : H := ⟨0, []⟩
def H.get (h : H) (id : Nat) : Option Obj := if id < h.n then h.l[h.n - 1 - id]? else none
def H.push (h : H) (o : Obj) : H := ⟨h.n + 1, o :: h.l⟩
def H.set (h : H) (id : Nat) (o : Obj) : H := ⟨h.n, h.l.set (h.n - 1 - id) o⟩

def stampOf : Obj → Nat
  | .cells (.agg _ l) true _ => l.length
  | _ => 0

def sub : V → List Nat → Option V
  | v, [] => some v
  | .agg _ l, i :: p => match l[i]? with
    | some x => sub x p
    | none => none
  | _, _ :: _ => none

def put : V → List Nat → V → Option V
  | v, [], x => if v.sh = x.sh then some x else none
  | .agg k l, i :: p, x => match l[i]? with
    | some y => match put y p x with
      | some z => some (.agg k (l.set i z))
      | none => none
    | none => none
  | _, _ :: _, _ => none

/-- What an object's reference reads: the whole value under its stamp. -/
def H.root (h : H) (id st : Nat) : Option V :=
  match h.get id with
  | some (.cells v g r) => if stampOf (.cells v g r) = st then some v else none
  | _ => none

def H.read (h : H) (id st : Nat) (path : List Nat) : Option V :=
  match h.root id st with
  | some v => sub v path
  | none => none

def H.write (h : H) (id st : Nat) (path : List Nat) (x : V) : Option H :=
  match h.get id with
  | some (.cells v g false) =>
    if stampOf (.cells v g false) = st then
      match path with
      | [] => if g then none else match put v path x with
        | some v' => some (h.set id (.cells v' g false))
        | none => none
      | _ :: _ => match put v path x with
        | some v' => some (h.set id (.cells v' g false))
        | none => none
    else none
  | _ => none

def listOf : V → Option (List V)
  | .agg _ l => some l
  | _ => none

/-- Does a reference lead to a value of a shape? -/
def H.isAt (h : H) (id st : Nat) (path : List Nat) (sh : Nat) : Bool :=
  match h.read id st path with
  | some x => x.sh == sh
  | none => false

/-- A slice's elements. -/
def H.elems (h : H) : V → Option (List V)
  | .nilsl => some []
  | .sl id st path _ off len _ =>
    match h.read id st path with
    | some (.agg _ l) => if off + len ≤ l.length then some ((l.drop off).take len) else none
    | _ => none
  | _ => none

/-- Elements laid over a list, from a place on. -/
def ovr (l : List V) (at_ : Nat) (xs : List V) : List V := l.take at_ ++ xs ++ l.drop (at_ + xs.length)

inductive Od where
  | t (n : Nat)
  | c (v : V)
  | f (id : Nat)
  deriving Inhabited

inductive IOp where
  | mv (x : Od)
  | pick (c a b : Od)
  | box (sh : Nat) (x : Od)
  | build (sh : Nat) (z : List V) (parts : List (Nat × Od))
  | bsl (d e : Nat) (z : V) (n : Nat) (parts : List (Nat × Od))
  | load (sh : Nat) (a : Od)
  | store (sh : Nat) (a x : Od)
  | nilck (x : Od)
  | bin (op : BinOp) (x y : Od)
  | eqv (sh : Nat) (neg : Bool) (x y : Od)
  | eqb (neg : Bool) (x y : Od)
  | eqn (k : Nat) (neg : Bool) (x y : Od)
  | un (op : UnOp) (x : Od)
  | cint (k : IntKind) (x : Od)
  | cid (x : Od)
  | cbs (x : Od)
  | csb (d : Nat) (x : Od)
  | ifc (t : Nat) (x : Od)
  | mkf (f : Nat) (caps : List Od)
  | msl (d e : Nat) (z : V) (bytes : Nat) (l c : Od)
  | slS (x : Od) (lo hi : Option Od)
  | slL (e : Nat) (x : Od) (lo hi mx : Option Od)
  | slA (a e n : Nat) (x : Od) (lo hi mx : Option Od)
  | fa (sh k fsh : Nat) (x : Od)
  | fld (sh k : Nat) (x : Od)
  | iaA (a e n : Nat) (x i : Od)
  | iaL (e : Nat) (x i : Od)
  | ixA (a n : Nat) (x i : Od)
  | ixS (x i : Od)
  | ext (x : Od) (i : Nat)
  | call (f : Od) (args : List Od)
  | lenS (x : Od)
  | lenL (x : Od)
  | app (d e bytes : Nat) (x y : Od)
  | appS (d bytes : Nat) (x y : Od)
  | cpy (e : Nat) (x y : Od)
  | cpyS (x y : Od)
  | mx (xs : List Od)
  | mn (xs : List Od)
  | rngS (x : Od)
  | nxtS (x : Od)
  | no
  deriving Inhabited

structure IOper where
  dst : Option Nat
  op : IOp
  guard : Option (Nat × Bool)
  deriving Inhabited

inductive IC where
  | skip
  | reg (ops : List IOper) (keep : List Nat)
  | drw (ops : List IOper) (bef : List Nat) (keep : List Nat)
  | seq (a b : IC)
  | cond (c : Od) (a b : IC)
  | blk (id : Nat) (a : IC)
  | loop (a : IC)
  | exit (id : Nat)
  | scope (a : IC)
  | jump (a : IC) (l : Nat)
  | label (l : Nat)
  | goto (l : Nat)
  | ret
  deriving Inhabited

inductive IRes where
  | t (n : Nat)
  | c (n sh : Nat)

structure IFn where
  nargs : Nat
  res : List IRes
  body : IC

abbrev Env := List (Nat × V)

def Env.get : Env → Nat → Option V
  | [], _ => none
  | (k, v) :: e, n => if k = n then some v else Env.get e n

def Env.put : Env → Nat → V → Env
  | [], n, x => [(n, x)]
  | (k, v) :: e, n, x => if k = n then (k, x) :: e else (k, v) :: Env.put e n x

def Env.keep (e : Env) (ks : List Nat) : Env := e.filter fun p => ks.contains p.1

/-- Some of the temporaries, in this order. -/
def Env.sel (e : Env) : List Nat → Env
  | [] => []
  | k :: ks => match e.get k with
    | some v => (k, v) :: Env.sel e ks
    | none => Env.sel e ks

def ev (e : Env) : Od → Option V
  | .t n => e.get n
  | .c v => some v
  | .f id => some (.fn id [])

def evs (e : Env) : List Od → Option (List V)
  | [] => some []
  | x :: l => match ev e x, evs e l with
    | some v, some vs => if v.isTup then none else some (v :: vs)
    | _, _ => none

def evo (e : Env) : Option Od → Option (Option V)
  | none => some none
  | some x => match ev e x with
    | some v => some (some v)
    | none => none

/-- What a call answers: the results, the heap behind it. -/
abbrev Orc := Nat → List V → H → Option (V × H)

def cmpI (op : BinOp) (x y : Int) : Option V :=
  match op with
  | .eql => some (.b (x == y))
  | .neq => some (.b (x != y))
  | .lss => some (.b (decide (x < y)))
  | .leq => some (.b (decide (x ≤ y)))
  | .gtr => some (.b (decide (x > y)))
  | .geq => some (.b (decide (x ≥ y)))
  | _ => none

def bitI (op : BinOp) (k : IntKind) (x y : Int) : Option V :=
  match op with
  | .and => some (.i k (k.wrap (BitVec.ofInt k.bits x &&& BitVec.ofInt k.bits y).toNat))
  | .or => some (.i k (k.wrap (BitVec.ofInt k.bits x ||| BitVec.ofInt k.bits y).toNat))
  | .xor => some (.i k (k.wrap (BitVec.ofInt k.bits x ^^^ BitVec.ofInt k.bits y).toNat))
  | .andNot => some (.i k (k.wrap (BitVec.ofInt k.bits x &&& ~~~ BitVec.ofInt k.bits y).toNat))
  | _ => none

def binI (op : BinOp) (k : IntKind) (x y : Int) : Option V :=
  match op with
  | .add => some (.i k (k.wrap (x + y)))
  | .sub => some (.i k (k.wrap (x - y)))
  | .mul => some (.i k (k.wrap (x * y)))
  | .quo => if y = 0 then none else some (.i k (k.wrap (x.tdiv y)))
  | .rem => if y = 0 then none else some (.i k (x.tmod y))
  | .and | .or | .xor | .andNot => bitI op k x y
  | .shl | .shr => none
  | _ => cmpI op x y

def shI (op : BinOp) (k : IntKind) (x y : Int) : Option V :=
  if y < 0 then none else
  match op with
  | .shl => some (.i k (k.wrap (x * 2 ^ (min y.toNat k.bits))))
  | .shr => some (.i k (x.fdiv (2 ^ (min y.toNat k.bits))))
  | _ => none

def binS (op : BinOp) (x y : List UInt8) : Option V :=
  match op with
  | .add => if x.length + y.length < 2 ^ 60 then some (.s (x ++ y)) else none
  | .eql => some (.b (x == y))
  | .neq => some (.b (!(x == y)))
  | _ => none

/-- '==' of two values of a kind that has nil, one of them nil. -/
def eqn (k : Nat) (x y : V) : Option Bool :=
  match k, x, y with
  | 0, .nilp, .nilp => some true
  | 0, .ptr .., .nilp => some false
  | 0, .nilp, .ptr .. => some false
  | 1, .nilsl, .nilsl => some true
  | 1, .sl .., .nilsl => some false
  | 1, .nilsl, .sl .. => some false
  | 2, .nilm, .nilm => some true
  | 2, .mp _, .nilm => some false
  | 2, .nilm, .mp _ => some false
  | 3, .nilf, .nilf => some true
  | 3, .fn .., .nilf => some false
  | 3, .nilf, .fn .. => some false
  | 4, .nili, .nili => some true
  | 4, .ifc .., .nili => some false
  | 4, .nili, .ifc .. => some false
  | _, _, _ => none

def binV (op : BinOp) (x y : V) : Option V :=
  match x, y with
  | .i k a, .i k' b => match op with
    | .shl | .shr => shI op k a b
    | _ => if k = k' then binI op k a b else none
  | .s a, .s b => binS op a b
  | _, _ => none

def unV (op : UnOp) (x : V) : Option V :=
  match op, x with
  | .not, .b x => some (.b (!x))
  | .neg, .i k n => some (.i k (k.wrap (0 - n)))
  | .xor, .i k n => bitI .xor k (if k.signed then -1 else k.max) n
  | _, _ => none

/-- Parts laid into a list of parts. -/
def fillV : List V → List (Nat × V) → Option (List V)
  | l, [] => some l
  | l, (i, x) :: r => match l[i]? with
    | some y => if y.sh = x.sh then fillV (l.set i x) r else none
    | none => none

def evp (e : Env) : List (Nat × Od) → Option (List (Nat × V))
  | [] => some []
  | (i, x) :: r => match ev e x, evp e r with
    | some v, some l => if v.isTup then none else some ((i, v) :: l)
    | _, _ => none

def intOf? : V → Option Int
  | .i _ n => some n
  | _ => none

/-- A bound of a slice: a number from 0 to most. -/
def bound (most : Nat) : Option V → Nat → Option Nat
  | none, d => some d
  | some (.i _ n), _ => if 0 ≤ n ∧ n ≤ (most : Int) then some n.toNat else none
  | some _, _ => none

/-- Bounds of a slice: low, high, where the room ends (none: not known). -/
def bounds (len : Nat) (cap : Option Nat) (lo hi mx : Option V) : Option (Nat × Nat × Option Nat) :=
  match mx with
  | none => match bound (cap.getD len) hi len with
    | some h => match bound h lo 0 with
      | some l => some (l, h, cap)
      | none => none
    | none => none
  | some m => match bound (cap.getD len) (some m) 0, hi with
    | some m, some hv => match bound m (some hv) 0 with
      | some h => match bound h lo 0 with
        | some l => some (l, h, some m)
        | none => none
      | none => none
    | _, _ => none

def maxI : List V → Option V
  | [] => none
  | x :: l => l.foldlM (fun a y => match a, y with
      | .i k m, .i _ n => some (.i k (if n > m then n else m))
      | _, _ => none) x

def minI : List V → Option V
  | [] => none
  | x :: l => l.foldlM (fun a y => match a, y with
      | .i k m, .i _ n => some (.i k (if n < m then n else m))
      | _, _ => none) x

def byteV (c : UInt8) : V := .i .u8 c.toNat
def toByte? : V → Option UInt8
  | .i .u8 n => some (UInt8.ofNat n.toNat)
  | _ => none
def toBytes? : List V → Option (List UInt8)
  | [] => some []
  | x :: l => match toByte? x, toBytes? l with
    | some c, some r => some (c :: r)
    | _, _ => none

/-- Append of elements. -/
def appendV (h : H) (d e bytes : Nat) (x : V) (ys : List V) : Option (V × H) :=
  if ys.isEmpty then (match x with | .nilsl | .sl .. => some (x, h) | _ => none) else
  match x with
  | .nilsl =>
    if ys.length * bytes ≤ 2 ^ 46 then some (.sl h.n ys.length [] e 0 ys.length none, h.push (.cells (.agg d ys) true false)) else none
  | .sl id st path e' off len cap =>
    if e' ≠ e then none else
    match cap with
    | some c =>
      if len + ys.length ≤ c then
        match h.get id with
        | some (.cells v false false) => match sub v path with
          | some (.agg s l) => if off + c ≤ l.length ∧ st = 0 then match put v path (.agg s (ovr l (off + len) ys)) with
              | some v' => some (.sl id st path e off (len + ys.length) cap, h.set id (.cells v' false false))
              | none => none
            else none
          | _ => none
        | _ => none
      else if (len + ys.length) * bytes ≤ 2 ^ 46 then
        match h.elems x with
        | some xs => some (.sl h.n (len + ys.length) [] e 0 (len + ys.length) none, h.push (.cells (.agg d (xs ++ ys)) true false))
        | none => none
      else none
    | none =>
      match path, off, h.get id with
      | [], 0, some (.cells (.agg d' l) true false) =>
        if l.length = st ∧ st = len ∧ d' = d ∧ (len + ys.length) * bytes ≤ 2 ^ 46 then
          some (.sl id (len + ys.length) [] e 0 (len + ys.length) none, h.set id (.cells (.agg d (l ++ ys)) true false))
        else none
      | _, _, _ => none
  | _ => none

/-- Elements laid into a slice, from its begin on. -/
def layV (h : H) (x : V) (ys : List V) : Option H :=
  match x with
  | .nilsl => if ys.isEmpty then some h else none
  | .sl id st path _ off len _ =>
    if ys.length ≤ len then
      match h.get id with
      | some (.cells v g false) => if stampOf (.cells v g false) ≠ st then none else match sub v path with
        | some (.agg s l) => if off + len ≤ l.length then match put v path (.agg s (ovr l off ys)) with
            | some v' => some (h.set id (.cells v' g false))
            | none => none
          else none
        | _ => none
      | _ => none
    else none
  | _ => none

def allSh (e : Nat) : List V → Bool
  | [] => true
  | x :: l => x.sh == e && allSh e l

section
variable (pure? : Nat → Bool) (C : Orc)

/-- Does a value hold no reference? (pure?: of a shape all of whose cells are data.) -/
def noRef : V → Bool
  | .b _ | .i _ _ | .s _ | .sym .. => true
  | .agg s _ => pure? s
  | _ => false

def noRefs : List V → Bool
  | [] => true
  | x :: l => noRef pure? x && noRefs l

def noRefR : V → Bool
  | .tup l => noRefs pure? l
  | v => noRef pure? v

/-- A call. Where no reference goes in and none comes out, the callee sees no memory of ours and leaves none. -/
def callV (f : Nat) (args : List V) (h : H) : Option (V × H) :=
  if noRefs pure? args then
    match C f args H.empty with
    | some (v, _) => if noRefR pure? v then some (v, h) else C f args h
    | none => none
  else C f args h

def aop (e : Env) (h : H) : IOp → Option (V × H)
  | .mv x => match ev e x with | some v => some (v, h) | none => none
  | .pick c a b => match ev e c with
    | some (.b t) => match (if t then ev e a else ev e b) with | some v => some (v, h) | none => none
    | _ => none
  | .box sh x => match ev e x with
    | some v => if v.sh = sh ∧ v.isTup = false then some (.ptr h.n 0 [] sh, h.push (.cells v false false)) else none
    | none => none
  | .build sh z parts => match evp e parts with
    | some ps => match fillV z ps with | some l => some (.agg sh l, h) | none => none
    | none => none
  | .bsl d el z n parts => match evp e parts with
    | some ps => match fillV (List.replicate n z) ps with
      | some l => some (.sl h.n 0 [] el 0 n (some n), h.push (.cells (.agg d l) false false))
      | none => none
    | none => none
  | .load sh a => match ev e a with
    | some (.ptr id st path sh') => if sh' = sh then match h.read id st path with | some v => some (v, h) | none => none else none
    | _ => none
  | .store sh a x => match ev e a, ev e x with
    | some (.ptr id st path sh'), some v => if sh' = sh ∧ v.sh = sh ∧ v.isTup = false then match h.write id st path v with | some h' => some (unit, h') | none => none else none
    | _, _ => none
  | .nilck x => match ev e x with
    | some v => match v with | .ptr .. | .ifc .. | .fn .. => some (v, h) | _ => none
    | none => none
  | .bin op x y => match ev e x, ev e y with
    | some a, some b => match binV op a b with | some v => some (v, h) | none => none
    | _, _ => none
  | .eqv sh neg x y => match ev e x, ev e y with
    | some a, some b => if a.sh = sh ∧ b.sh = sh then some (.b (if neg then !veq a b else veq a b), h) else none
    | _, _ => none
  | .eqb neg x y => match ev e x, ev e y with
    | some (.b a), some (.b b) => some (.b (if neg then !(a == b) else a == b), h)
    | _, _ => none
  | .eqn k neg x y => match ev e x, ev e y with
    | some a, some b => match eqn k a b with
      | some r => some (.b (if neg then !r else r), h)
      | none => none
    | _, _ => none
  | .un op x => match ev e x with
    | some a => match unV op a with | some v => some (v, h) | none => none
    | none => none
  | .cint k x => match ev e x with
    | some (.i _ n) => some (.i k (k.wrap n), h)
    | _ => none
  | .cid x => match ev e x with
    | some (.s l) => some (.s l, h)
    | _ => none
  | .cbs x => match ev e x with
    | some v => if v.slOf 7 then match h.elems v with
      | some l => match toBytes? l with | some r => some (.s r, h) | none => none
      | none => none else none
    | none => none
  | .csb d x => match ev e x with
    | some (.s l) => if l.length ≤ 2 ^ 46 then some (.sl h.n l.length [] 7 0 l.length none, h.push (.cells (.agg d (l.map byteV)) true false)) else none
    | _ => none
  | .ifc t x => match ev e x with
    | some v => if v.sc0 then some (.ifc t v, h) else none
    | none => none
  | .mkf f caps => match evs e caps with
    | some vs => if vs.all V.sc0 then some (.fn f vs, h) else none
    | none => none
  | .msl d el z bytes l c => match ev e l, ev e c with
    | some (.i .i64 l), some (.i .i64 c) =>
      if 0 ≤ l ∧ l ≤ c ∧ c * bytes ≤ 2 ^ 46 ∧ c ≤ 2 ^ 46 then
        some (.sl h.n 0 [] el 0 l.toNat (some c.toNat), h.push (.cells (.agg d (List.replicate c.toNat z)) false false))
      else none
    | _, _ => none
  | .slS x lo hi => match ev e x, evo e lo, evo e hi with
    | some (.s l), some lo, some hi => match bounds l.length (some l.length) lo hi none with
      | some (a, b, _) => some (.s ((l.drop a).take (b - a)), h)
      | none => none
    | _, _, _ => none
  | .slL el x lo hi mx => match ev e x, evo e lo, evo e hi, evo e mx with
    | some .nilsl, some lo, some hi, some mx => match bounds 0 (some 0) lo hi mx with
      | some _ => some (.nilsl, h)
      | none => none
    | some (.sl id st path el' off len cap), some lo, some hi, some mx =>
      if el' = el then match bounds len cap lo hi mx with
        | some (a, b, m) => some (.sl id st path el (off + a) (b - a) (m.map fun m => m - a), h)
        | none => none
      else none
    | _, _, _, _ => none
  | .slA a el n x lo hi mx => match ev e x, evo e lo, evo e hi, evo e mx with
    | some (.ptr id st path sh), some lo, some hi, some mx =>
      if sh = a ∧ h.isAt id st path a = true then match bounds n (some n) lo hi mx with
        | some (l, r, m) => some (.sl id st path el l (r - l) (m.map fun m => m - l), h)
        | none => none
      else none
    | _, _, _, _ => none
  | .fa sh k fsh x => match ev e x with
    | some (.ptr id st path sh') => if sh' = sh then some (.ptr id st (path ++ [k]) fsh, h) else none
    | _ => none
  | .fld sh k x => match ev e x with
    | some (.agg sh' l) => if sh' = sh then match l[k]? with | some v => some (v, h) | none => none else none
    | _ => none
  | .iaA a el n x i => match ev e x, ev e i with
    | some (.ptr id st path sh), some (.i _ j) =>
      if sh = a ∧ 0 ≤ j ∧ j < (n : Int) then some (.ptr id st (path ++ [j.toNat]) el, h) else none
    | _, _ => none
  | .iaL el x i => match ev e x, ev e i with
    | some (.sl id st path el' off len _), some (.i _ j) =>
      if el' = el ∧ 0 ≤ j ∧ j < (len : Int) then some (.ptr id st (path ++ [off + j.toNat]) el, h) else none
    | _, _ => none
  | .ixA a n x i => match ev e x, ev e i with
    | some (.agg sh l), some (.i _ j) =>
      if sh = a ∧ 0 ≤ j ∧ j < (n : Int) then match l[j.toNat]? with | some v => some (v, h) | none => none else none
    | _, _ => none
  | .ixS x i => match ev e x, ev e i with
    | some (.s l), some (.i _ j) => if 0 ≤ j then match l[j.toNat]? with | some c => some (byteV c, h) | none => none else none
    | _, _ => none
  | .ext x i => match ev e x with
    | some (.tup l) => match l[i]? with | some v => some (v, h) | none => none
    | _ => none
  | .call f args => match ev e f, evs e args with
    | some (.fn f caps), some vs => callV pure? C f (vs ++ caps) h
    | _, _ => none
  | .lenS x => match ev e x with
    | some (.s l) => some (.i .i64 l.length, h)
    | _ => none
  | .lenL x => match ev e x with
    | some .nilsl => some (.i .i64 0, h)
    | some (.sl _ _ _ _ _ len _) => some (.i .i64 len, h)
    | _ => none
  | .app d el bytes x y => match ev e x, ev e y with
    | some a, some b => if b.slOf el then match h.elems b with | some ys => appendV h d el bytes a ys | none => none else none
    | _, _ => none
  | .appS d bytes x y => match ev e x, ev e y with
    | some a, some (.s l) => appendV h d 7 bytes a (l.map byteV)
    | _, _ => none
  | .cpy el x y => match ev e x, ev e y with
    | some a, some b => if a.slOf el ∧ b.slOf el then match h.elems a, h.elems b with
      | some xs, some ys => match layV h a (ys.take (min ys.length xs.length)) with
        | some h' => some (.i .i64 (min ys.length xs.length : Nat), h')
        | none => none
      | _, _ => none else none
    | _, _ => none
  | .cpyS x y => match ev e x, ev e y with
    | some a, some (.s l) => if a.slOf 7 then match h.elems a with
      | some xs => match layV h a ((l.take (min l.length xs.length)).map byteV) with
        | some h' => some (.i .i64 (min l.length xs.length : Nat), h')
        | none => none
      | none => none else none
    | _, _ => none
  | .mx xs => match evs e xs with
    | some vs => match maxI vs with | some v => some (v, h) | none => none
    | none => none
  | .mn xs => match evs e xs with
    | some vs => match minI vs with | some v => some (v, h) | none => none
    | none => none
  | .rngS x => match ev e x with
    | some (.s l) => some (.ptr h.n 0 [] 65535, h.push (.iter l 0))
    | _ => none
  | .nxtS x => match ev e x with
    | some (.ptr id _ [] _) => match h.get id with
      | some (.iter l pos) =>
        if pos < l.length then some (.tup [.b true, .i .i64 pos, .i .i32 (Utf8.decode ⟨l.toArray⟩ pos).1], h.set id (.iter l (pos + (Utf8.decode ⟨l.toArray⟩ pos).2)))
        else some (.tup [.b false], h)
      | _ => none
    | _ => none
  | .no => none

/-- Is an operation wanted? (none: it is not known.) -/
def wantedV (e : Env) : Option (Nat × Bool) → Option Bool
  | none => some true
  | some (t, w) => match e.get t with
    | some (.b x) => some (x == w)
    | some (.tup _) => some false
    | _ => none

def Env.putO (e : Env) : Option Nat → V → Env
  | none, _ => e
  | some d, v => e.put d v

/-- Operations, one behind the other. -/
def run (e : Env) (h : H) : List IOper → Option (Env × H)
  | [] => some (e, h)
  | o :: r => match wantedV e o.guard with
    | some true => match aop pure? C e h o.op with
      | some (v, h') => run (e.putO o.dst v) h' r
      | none => none
    | some false => run (e.putO o.dst unit) h r
    | none => none

/-! ### regions whose operations may run in any order -/

def Od.tm : Od → List Nat
  | .t n => [n]
  | _ => []

def oods : Option Od → List Od
  | some x => [x]
  | none => []

def IOp.ods : IOp → List Od
  | .mv x | .box _ x | .load _ x | .nilck x | .un _ x | .cint _ x | .cid x | .cbs x | .csb _ x | .ifc _ x | .fa _ _ _ x | .fld _ _ x | .ext x _ | .lenS x | .lenL x | .rngS x | .nxtS x => [x]
  | .pick c a b => [c, a, b]
  | .build _ _ ps | .bsl _ _ _ _ ps => ps.map (·.2)
  | .store _ x y | .bin _ x y | .eqv _ _ x y | .eqb _ x y | .eqn _ _ x y | .msl _ _ _ _ x y | .iaA _ _ _ x y | .iaL _ x y | .ixA _ _ x y | .ixS x y | .app _ _ _ x y | .appS _ _ x y | .cpy _ x y | .cpyS x y => [x, y]
  | .mkf _ xs | .mx xs | .mn xs => xs
  | .call f xs => f :: xs
  | .slS x a b => x :: (oods a ++ oods b)
  | .slL _ x a b c | .slA _ _ _ x a b c => x :: (oods a ++ oods b ++ oods c)
  | .no => []

def odsTm : List Od → List Nat
  | [] => []
  | .t n :: l => n :: odsTm l
  | _ :: l => odsTm l

def guardTm : Option (Nat × Bool) → List Nat
  | some (t, _) => [t]
  | none => []

/-- The temporaries that an operation looks at. -/
def IOper.tms (o : IOper) : List Nat := guardTm o.guard ++ odsTm o.op.ods

/-- What an operation does to the memory: nothing, reads an object, makes one of a constant, writes one, anything. -/
inductive Cls where
  | pu
  | rd (id : Nat)
  | al
  | wr (id : Nat)
  | ge (h h' : H)
  deriving Inhabited

mutual
/-- Are two values the same? -/
def vsame : V → V → Bool
  | .b x, .b y => x == y
  | .i k x, .i l y => k == l && x == y
  | .s x, .s y => x == y
  | .agg k l, .agg k' m => k == k' && vsames l m
  | .tup l, .tup m => vsames l m
  | .nilp, .nilp | .nilsl, .nilsl | .nilm, .nilm | .nilc, .nilc | .nilf, .nilf | .nili, .nili | .top, .top => true
  | .ptr a b c d, .ptr a' b' c' d' => a == a' && b == b' && c == c' && d == d'
  | .sl a b c d e f g, .sl a' b' c' d' e' f' g' => a == a' && b == b' && c == c' && d == d' && e == e' && f == f' && g == g'
  | .mp a, .mp b => a == b
  | .sym k a, .sym l b => k == l && a == b
  | .ch a, .ch b => a == b
  | .fn f l, .fn g m => f == g && vsames l m
  | .ifc t x, .ifc u y => t == u && vsame x y
  | _, _ => false
def vsames : List V → List V → Bool
  | [], [] => true
  | x :: l, y :: m => vsame x y && vsames l m
  | _, _ => false
end

def osame : Option Obj → Option Obj → Bool
  | none, none => true
  | some (.cells v g r), some (.cells v' g' r') => g == g' && r == r' && vsame v v'
  | _, _ => false

mutual
/-- A value that names no object. -/
def noId : V → Bool
  | .b _ | .i _ _ | .s _ | .nilp | .nilsl | .nilm | .nilc | .nilf | .nili | .sym .. => true
  | .agg _ l => noIds l
  | _ => false
def noIds : List V → Bool
  | [] => true
  | x :: l => noId x && noIds l
end

def isPu : IOp → Bool
  | .mv _ | .pick .. | .build .. | .nilck _ | .bin .. | .eqv .. | .eqb .. | .eqn .. | .un .. | .cint .. | .cid _ | .ifc .. | .mkf .. | .slS .. | .slL .. | .fa .. | .fld .. | .iaA .. | .iaL .. | .ixA .. | .ixS .. | .ext .. | .lenS _ | .lenL _ | .mx _ | .mn _ => true
  | _ => false

/-- A call that neither takes nor gives a reference. -/
def pureCall (e : Env) : IOp → Option V
  | .call f args => match ev e f, evs e args with
    | some (.fn f caps), some vs => if noRefs pure? (vs ++ caps) then match C f (vs ++ caps) H.empty with
        | some (v, _) => if noRefR pure? v then some v else none
        | none => none
      else none
    | _, _ => none
  | _ => none

/-- The object that an operation reads. -/
def rdId (e : Env) : IOp → Option Nat
  | .load _ a => match ev e a with | some (.ptr id ..) => some id | _ => none
  | .slA _ _ _ a _ _ _ => match ev e a with | some (.ptr id ..) => some id | _ => none
  | .cbs a => match ev e a with | some (.sl id ..) => some id | _ => none
  | _ => none

def wrId (e : Env) : IOp → Option Nat
  | .store _ a _ => match ev e a with | some (.ptr id ..) => some id | _ => none
  | _ => none

def alCls : IOp → Bool
  | .box sh (.c z) => noId z && z.sh == sh
  | _ => false

def hits (al : List (Nat × Nat)) (ts : List Nat) : Bool := al.any fun p => ts.contains p.1

/-- One operation of such a region: what it gives, what it does. 'al': the new objects' temporaries and names. -/
def stepD (al : List (Nat × Nat)) (e : Env) (h : H) (o : IOper) : Option (V × H × Cls) :=
  let ts := o.tms
  let e := e.keep ts
  if hits al o.dst.toList || hits al (guardTm o.guard) then none else
  match wantedV e o.guard with
  | none => none
  | some false => some (unit, h, .pu)
  | some true =>
    if alCls o.op then
      match o.dst, aop pure? C e h o.op with
      | some _, some (v, h') => some (v, h', .al)
      | _, _ => none
    else
    let hit := hits al ts
    match wrId e o.op with
    | some id => match aop pure? C e h o.op with
      | some (v, h') => some (v, h', .wr id)
      | none => none
    | none =>
    match (if hit then none else pureCall pure? C e o.op) with
    | some v => some (v, h, .pu)
    | none => match aop pure? C e h o.op with
      | some (v, h') =>
        if hit then some (v, h', .ge h h') else
        if isPu o.op then some (v, h', .pu) else
        match rdId e o.op with
        | some id => if al.any (fun p => p.2 == id) then some (v, h', .ge h h') else some (v, h', .rd id)
        | none => some (v, h', .ge h h')
      | none => none

def alNext (al : List (Nat × Nat)) (h : H) (d : Option Nat) : Cls → List (Nat × Nat)
  | .al => match d with | some d => (d, h.n) :: al | none => al
  | _ => al

def runD (al : List (Nat × Nat)) (e : Env) (h : H) : List IOper → Option (List Cls × Env × H)
  | [] => some ([], e, h)
  | o :: r => match stepD pure? C al e h o with
    | some (v, h', c) => match runD (alNext al h o.dst c) (e.putO o.dst v) h' r with
      | some (cs, e', h') => some (c :: cs, e', h')
      | none => none
    | none => none

def heavy : Cls → Bool
  | .wr _ | .ge .. => true
  | _ => false

/-- May the later one of two run ahead of the other? -/
def swapOk : Cls → Cls → Bool
  | .pu, _ => true
  | _, .pu => true
  | .rd _, .rd _ => true
  | .rd a, .wr b => a != b
  | .wr a, .rd b => a != b
  | .rd a, .ge h h' => osame (h.get a) (h'.get a)
  | .ge h h', .rd a => osame (h.get a) (h'.get a)
  | .rd _, .al => true
  | .al, .rd _ => true
  | .al, .al => true
  | .wr _, .al => true
  | .ge .., .al => true
  | _, _ => false

/-- The operations ahead: each one is bound to be ahead, or may be behind. (b: who is bound to be ahead; i: the first one's place.) -/
def pairOk (b : Nat) (c : Cls) : Nat → List Cls → Bool
  | _, [] => true
  | i, d :: l => (swapOk d c || b.testBit i) && pairOk b c (i + 1) l

def pairsOk : List Cls → List Nat → List Cls → Bool
  | _, [], [] => true
  | pre, b :: bs, c :: cs => (match c with | .pu => true | _ => pairOk b c 0 pre) && pairsOk (pre ++ [c]) bs cs
  | _, _, _ => false

end

inductive Ex where
  | norm
  | exit (id : Nat)
  | goto (l : Nat)
  | ret
  deriving DecidableEq, Inhabited

def ICfind : IC → Nat → Option IC
  | .seq a b, l => match ICfind a l with
    | some r => some (.seq r b)
    | none => ICfind b l
  | .label k, l => if k = l then some .skip else none
  | _, _ => none

section
variable (pure? : Nat → Bool) (C : Orc)

def exec : Nat → IC → Env → H → Option (Ex × Env × H)
  | 0, _, _, _ => none
  | _ + 1, .skip, e, h => some (.norm, e, h)
  | _ + 1, .reg ops keep, e, h => match run pure? C e h ops with
    | some (e', h') => some (.norm, e'.sel keep, h')
    | none => none
  | _ + 1, .drw ops bef keep, e, h => match runD pure? C [] e h ops with
    | some (cs, e', h') => if pairsOk [] bef cs then some (.norm, e'.sel keep, h') else none
    | none => none
  | n + 1, .seq a b, e, h => match exec n a e h with
    | some (.norm, e', h') => exec n b e' h'
    | r => r
  | n + 1, .cond c a b, e, h => match ev e c with
    | some (.b t) => if t then exec n a e h else exec n b e h
    | _ => none
  | n + 1, .blk id a, e, h => match exec n a e h with
    | some (.exit j, e', h') => if j = id then some (.norm, e', h') else some (.exit j, e', h')
    | r => r
  | n + 1, .loop a, e, h => match exec n a e h with
    | some (.norm, e', h') => exec n (.loop a) e' h'
    | r => r
  | _ + 1, .exit id, e, h => some (.exit id, e, h)
  | _ + 1, .label _, e, h => some (.norm, e, h)
  | _ + 1, .goto l, e, h => some (.goto l, e, h)
  | _ + 1, .ret, e, h => some (.ret, e, h)
  | n + 1, .scope a, e, h => match exec n a e h with
    | some (.goto l, e', h') => exec n (.jump a l) e' h'
    | r => r
  | n + 1, .jump a l, e, h => match ICfind a l with
    | some r => match exec n r e h with
      | some (.goto l', e', h') => exec n (.jump a l') e' h'
      | r => r
    | none => some (.goto l, e, h)


def env0 : Nat → List V → Env
  | _, [] => []
  | i, v :: l => (i, v) :: env0 (i + 1) l

def getRes (e : Env) (h : H) : IRes → Option V
  | .t n => match e.get n with
    | some v => if v.isTup then none else some v
    | none => none
  | .c n sh => match e.get n with
    | some (.ptr id st p sh') => if sh' = sh then match h.read id st p with
        | some v => if v.isTup then none else some v
        | none => none
      else none
    | _ => none

def getRess (e : Env) (h : H) : List IRes → Option (List V)
  | [] => some []
  | r :: l => match getRes e h r, getRess e h l with
    | some v, some vs => some (v :: vs)
    | _, _ => none

def retV : List V → V
  | [v] => v
  | l => .tup l

/-- A function's run. -/
def fcall (fn : IFn) (fuel : Nat) (args : List V) (h : H) : Option (V × H) :=
  if args.length = fn.nargs then match exec pure? C fuel fn.body (env0 0 args) h with
    | some (x, e, h') => match x with
      | .norm | .ret => match getRess e h' fn.res with
        | some l => some (retV l, h')
        | none => none
      | _ => none
    | none => none
  else none

end

/-- Calls, calls in calls: at most so deep. What has no body here, 'ext' answers. -/
def acall (pure? : Nat → Bool) (bodies : Nat → Option IFn) (ext : Orc) (fuel : Nat) : Nat → Orc
  | 0 => fun _ _ _ => none
  | n + 1 => fun f args h => match bodies f with
    | some fn => fcall pure? (acall pure? bodies ext fuel n) fn fuel args h
    | none => ext f args h

end Go.Rae
