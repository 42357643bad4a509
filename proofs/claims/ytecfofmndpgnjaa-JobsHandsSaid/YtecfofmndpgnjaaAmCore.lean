/-
  AN ABSTRACT MACHINE for straight Go code of one goroutine (own work): values whose addresses are numbers of abstract blocks; slices without their spare room; a total function with fuel that runs a function's Code over an abstract heap. AmSound shows that what it tells is so in the model.
-/
import Derived.Calls
namespace Go.AM

inductive Loc where
  | own (i : Nat)
  | ext (path : List Nat)
  deriving DecidableEq

inductive AV where
  | bool (b : Bool)
  | int (k : IntKind) (n : Int)
  | str (s : List UInt8)
  | nilptr
  | ptr (l : Loc) (off : Nat)
  | nilslice
  | slice (l : Loc) (esz start len : Nat)
  /-- a slice without room, whatever its address is -/
  | odd (a : Addr)
  | nilmap
  | map (l : Loc)
  | nilfunc
  | func (fn : Fn) (first captured : List AV)
  | niliface
  | iface (t : TypeId) (v : AV)
  | agg (l : List AV)
  | tuple (l : List AV)

instance : Inhabited AV := ⟨.niliface⟩

def AV.cells : AV → List AV
  | .agg l => l
  | v => [v]

/-- may the value stand in one cell? -/
def AV.one : AV → Bool
  | .agg _ | .tuple _ => false
  | _ => true

inductive AObj where
  /-- a row of cells: its element type, the cells of one element, the cells -/
  | row (ty : TypeId) (esz : Nat) (cells : List AV)
  /-- what an empty slice leads to; true: its capacity is 0 -/
  | empty (cap0 : Bool)
  | map (es : List (AV × AV × Nat)) (clock : Nat)
  | siter (s : List UInt8) (pos : Nat)
  | miter (m : Option Loc) (since : Nat) (seen : List Nat) (stepped : Nat)

abbrev AHeap := List (Option AObj)

/-- what a function's temporaries hold: a tree by their numbers' bits -/
inductive Tr where
  | leaf
  | node (v : Option AV) (l r : Tr)

def Tr.get : Nat → Nat → Tr → Option AV
  | 0, _, _ => none
  | _ + 1, _, .leaf => none
  | _ + 1, 0, .node v _ _ => v
  | d + 1, q + 1, .node _ l r => match Nat.beq (q % 2) 1 with
    | true => Tr.get d (q / 2) r
    | false => Tr.get d (q / 2) l

def Tr.set (v : Option AV) : Nat → Nat → Tr → Tr
  | 0, _, x => x
  | _ + 1, 0, .leaf => .node v .leaf .leaf
  | d + 1, q + 1, .leaf => match Nat.beq (q % 2) 1 with
    | true => .node none .leaf (Tr.set v d (q / 2) .leaf)
    | false => .node none (Tr.set v d (q / 2) .leaf) .leaf
  | _ + 1, 0, .node _ l r => .node v l r
  | d + 1, q + 1, .node u l r => match Nat.beq (q % 2) 1 with
    | true => .node u l (Tr.set v d (q / 2) r)
    | false => .node u (Tr.set v d (q / 2) l) r

structure AEnv where
  size : Nat
  tr : Tr

def eget (env : AEnv) (t : Nat) : Option AV := match Nat.blt t env.size with
  | true => Tr.get 20 t env.tr
  | false => none

def hat (H : AHeap) (i : Nat) : Option AObj := match H[i]? with | some o => o | none => none

structure Ctx where
  P : Program
  G : List Nat → Option (List AV)

/-- one constant cell -/
def scAV : Value → Option AV
  | .bool b => some (.bool b)
  | .int k n => some (.int k n)
  | .string s => some (.str s.data.toList)
  | .pointer none => some .nilptr
  | .slice none 0 0 => some .nilslice
  | .map none => some .nilmap
  | .nilFunc => some .nilfunc
  | .nilIface => some .niliface
  | _ => none

def mapO {α β : Type} (f : α → Option β) : List α → Option (List β)
  | [] => some []
  | x :: r => (f x).bind fun y => (mapO f r).bind fun z => some (y :: z)

def constAV : Value → Option AV
  | .agg cs => (mapO scAV cs.toList).map .agg
  | .tuple cs => if cs.size = 0 then some (.tuple []) else none
  | v => scAV v

def aval (env : AEnv) : Operand → Option AV
  | .tmp t => eget env t
  | .const v => constAV v
  | .global g => some (.ptr (.ext [0, g]) 0)
  | .func f => some (.func (.func f) [] [])

def avals (env : AEnv) (xs : List Operand) : Option (List AV) := mapO (aval env) xs

def rowOf (c : Ctx) (H : AHeap) : Loc → Option (List AV)
  | .own i => match hat H i with | some (.row _ _ cs) => some cs | _ => none
  | .ext p => c.G p

/-- n cells from off on -/
def rd (c : Ctx) (H : AHeap) (l : Loc) (off n : Nat) : Option (List AV) :=
  (rowOf c H l).bind fun cs => if off + n ≤ cs.length then some ((cs.drop off).take n) else none

def setSeg (cs : List AV) (off : Nat) (vs : List AV) : List AV := cs.take off ++ (vs ++ cs.drop (off + vs.length))

/-- cells written -/
def wr (H : AHeap) (l : Loc) (off : Nat) (vs : List AV) : Option AHeap :=
  match l with
  | .own i => match hat H i with
    | some (.row ty esz cs) => if off + vs.length ≤ cs.length ∧ vs.all AV.one then some (H.set i (some (.row ty esz (setSeg cs off vs)))) else none
    | _ => none
  | .ext _ => none

def szOf (P : Program) (t : TypeId) : Option Nat := (P.info? t).map (·.size)
def isAggT (P : Program) (t : TypeId) : Option Bool :=
  (P.underlying t).map fun | .struct _ | .array _ _ => true | _ => false

/-- a type's zero value, in cells -/
def zeroCells (P : Program) (t : TypeId) : Option (List AV) :=
  (P.info? t).bind fun i => i.zero.bind fun z => mapO scAV z.cells.toList

def zeroAV (P : Program) (t : TypeId) : Option AV :=
  (P.info? t).bind fun i => i.zero.bind constAV

def fresh (H : AHeap) : Loc := .own H.length
def hnew (H : AHeap) (o : AObj) : AHeap := H ++ [some o]

def aload (c : Ctx) (H : AHeap) (t : TypeId) : AV → Option AV
  | .ptr l off => (isAggT c.P t).bind fun ag =>
    if ag then (szOf c.P t).bind fun n => (rd c H l off n).map .agg
    else (rd c H l off 1).bind fun vs => match vs with | [v] => some v | _ => none
  | _ => none

def astore (c : Ctx) (H : AHeap) (t : TypeId) (a v : AV) : Option AHeap :=
  match a with
  | .ptr l off => (szOf c.P t).bind fun n => if v.cells.length = n then wr H l off v.cells else none
  | _ => none

/-- a new variable -/
def anew (c : Ctx) (H : AHeap) (t : TypeId) (cells : List AV) : Option (AV × AHeap) :=
  (szOf c.P t).bind fun n => if cells.length = n ∧ cells.all AV.one then some (.ptr (fresh H) 0, hnew H (.row t n cells)) else none

def afill (place : Nat → Option (Nat × Nat)) (cells : List AV) : List (Nat × AV) → Option (List AV)
  | [] => some cells
  | (i, v) :: rest => (place i).bind fun p =>
    if v.cells.length = p.2 ∧ p.1 + p.2 ≤ cells.length ∧ v.cells.all AV.one then afill place (setSeg cells p.1 v.cells) rest else none

def fieldPlaces (P : Program) (fs : List Field) : Option (List (Nat × Nat)) :=
  mapO (fun f => (szOf P f.type).map fun n => (f.offset, n)) fs

def abuild (c : Ctx) (t : TypeId) (parts : List (Nat × AV)) : Option AV :=
  (zeroCells c.P t).bind fun z => (c.P.underlying t).bind fun d => match d with
  | .struct fs => (fieldPlaces c.P fs.toList).bind fun ps => (afill (fun i => ps[i]?) z parts).map .agg
  | .array _ e => (szOf c.P e).bind fun n => (afill (fun i => some (i * n, n)) z parts).map .agg
  | _ => none

def reps (n : Nat) (z : List AV) : List AV := match n with | 0 => [] | n + 1 => z ++ reps n z

def abuildSlice (c : Ctx) (H : AHeap) (t : TypeId) (len : Nat) (parts : List (Nat × AV)) : Option (AV × AHeap) :=
  (c.P.underlying t).bind fun d => match d with
  | .slice e => (szOf c.P e).bind fun n => (zeroCells c.P e).bind fun z =>
    if len * n ≤ 2 ^ 24 ∧ z.length = n ∧ 0 < n ∧ 0 < len ∧ z.all AV.one then
      (afill (fun i => some (i * n, n)) (reps len z) parts).map fun cs => (.slice (fresh H) n 0 len, hnew H (.row e n cs))
    else if parts = [] ∧ len = 0 ∧ 0 < n then some (.slice (fresh H) n 0 0, hnew H (.row e n []))
    else none
  | _ => none

def amakeSlice (c : Ctx) (H : AHeap) (t : TypeId) : AV → AV → Option (AV × AHeap)
  | .int _ l, .int _ m => (c.P.underlying t).bind fun d => match d with
    | .slice e => (c.P.info? e).bind fun i => (zeroCells c.P e).bind fun z =>
      if 0 ≤ l ∧ l ≤ m ∧ i.bytes * m ≤ 2 ^ 47 ∧ m < 2 ^ 63 ∧ z.length = i.size ∧ 0 < i.size ∧ z.all AV.one then
        some (.slice (fresh H) i.size 0 l.toNat, hnew H (.row e i.size (reps m.toNat z)))
      else none
    | _ => none
  | _, _ => none

def bytesAV (s : List UInt8) : List AV := s.map fun b => .int .u8 b.toNat

/-- the first cells of what is appended or copied: how many elements, the cells -/
def source (c : Ctx) (H : AHeap) (esz : Nat) : AV → Option (Nat × List AV)
  | .nilslice => some (0, [])
  | .str s => if esz = 1 then some (s.length, bytesAV s) else none
  | .odd _ => some (0, [])
  | .slice l e start n => if e = esz then (if n = 0 then some (0, []) else (rd c H l (start * esz) (n * esz)).map fun cs => (n, cs)) else none
  | _ => none

def aappend (c : Ctx) (H : AHeap) (st : TypeId) (s x : AV) : Option (AV × AHeap) :=
  (c.P.underlying st).bind fun d => match d with
  | .slice e => (c.P.info? e).bind fun i => (zeroCells c.P e).bind fun z =>
    if 0 < i.size ∧ 0 < i.bytes ∧ z.length = i.size then
    (source c H i.size x).bind fun (n, cs) =>
    if n = 0 then match s with | .nilslice => some (s, H) | .slice _ _ _ _ => some (s, H) | _ => none
    else match s with
    | .nilslice => if n * i.bytes ≤ 2 ^ 47 ∧ cs.all AV.one then some (.slice (fresh H) i.size 0 n, hnew H (.row e i.size cs)) else none
    | .slice (.own b) esz start len =>
      if esz = i.size ∧ cs.all AV.one then match hat H b with
      | some (.row ty esz' old) =>
        if ty = e ∧ esz' = esz ∧ (start + len) * esz ≤ old.length then
          if (start + len + n) * esz ≤ old.length then some (.slice (.own b) esz start (len + n), H.set b (some (.row ty esz (setSeg old ((start + len) * esz) cs))))
          else if (len + n) * i.bytes ≤ 2 ^ 47 then
            some (.slice (fresh H) esz 0 (len + n), hnew (H.set b none) (.row ty esz ((old.drop (start * esz)).take (len * esz) ++ cs)))
          else none
        else none
      | some (.empty true) => if len = 0 ∧ start = 0 ∧ n * i.bytes ≤ 2 ^ 47 then some (.slice (fresh H) esz 0 n, hnew H (.row e esz cs)) else none
      | _ => none
      else none
    | _ => none
    else none
  | _ => none

def abound (x : Option AV) (dflt : Nat) : Option Nat :=
  match x with
  | none => some dflt
  | some (.int _ i) => if 0 ≤ i then some i.toNat else none
  | _ => none

/-- has the row so many elements? -/
def ownRow (H : AHeap) (l : Loc) (esz k : Nat) : Bool :=
  match l with
  | .own i => match hat H i with | some (.row _ e cs) => decide (e = esz ∧ 0 < esz ∧ k * esz ≤ cs.length) | _ => false
  | .ext _ => false

def aslice (c : Ctx) (H : AHeap) (t : TypeId) (x : AV) (lo hi mx : Option AV) : Option (AV × AHeap) :=
  (c.P.underlying t).bind fun d => match d, x with
  | .string, .str s => if mx.isSome then none else
    (abound lo 0).bind fun l => (abound hi s.length).bind fun h =>
    if l ≤ h ∧ h ≤ s.length then some (.str ((s.drop l).take (h - l)), H) else none
  | .slice e, .nilslice => if mx.isSome then none else (szOf c.P e).bind fun _ => (abound lo 0).bind fun l => (abound hi 0).bind fun h => if l = 0 ∧ h = 0 then some (.nilslice, H) else none
  | .slice e, .slice loc esz start len =>
    (szOf c.P e).bind fun n => if n ≠ esz then none else
    (abound lo 0).bind fun l =>
    match mx with
    | some m => (abound hi 0).bind fun h => (abound (some m) 0).bind fun m =>
      if l = 0 ∧ h = 0 ∧ m = 0 ∧ hi.isSome then some (.slice (fresh H) esz 0 0, hnew H (.empty true)) else none
    | none =>
      (abound hi len).bind fun h =>
      if l ≤ h ∧ (h ≤ len ∨ ownRow H loc esz (start + h) = true) then
        if l = 0 then some (.slice loc esz start h, H)
        else if l < h then some (.slice loc esz (start + l) (h - l), H)
        else some (.slice (fresh H) esz 0 0, hnew H (.empty false))
      else none
  | _, _ => none

def afieldAddr (c : Ctx) (s : TypeId) (x : AV) (f : Nat) : Option AV :=
  match x with
  | .ptr l off => (c.P.underlying s).bind fun d => match d with
    | .struct fs => (fs[f]?).bind fun g => (szOf c.P g.type).bind fun n => if n = 0 then none else some (.ptr l (off + g.offset))
    | _ => none
  | _ => none

def apart (c : Ctx) (t : TypeId) (cs : List AV) (off : Nat) : Option AV :=
  (isAggT c.P t).bind fun ag =>
    if ag then (szOf c.P t).bind fun n => if off + n ≤ cs.length then some (.agg ((cs.drop off).take n)) else none
    else cs[off]?

def afield (c : Ctx) (t : TypeId) (x : AV) (f : Nat) : Option AV :=
  match x with
  | .agg cs => (c.P.underlying t).bind fun d => match d with
    | .struct fs => (fs[f]?).bind fun g => apart c g.type cs g.offset
    | _ => none
  | _ => none

def aindexAddr (c : Ctx) (t : TypeId) (x ix : AV) : Option AV :=
  match ix with
  | .int _ i => (c.P.underlying t).bind fun d => match d, x with
    | .array len e, .ptr l off => (szOf c.P e).bind fun n => if 0 ≤ i ∧ i < len then some (.ptr l (off + i.toNat * n)) else none
    | .slice e, .slice l esz start len => (szOf c.P e).bind fun n => if n = esz ∧ 0 ≤ i ∧ i < len then some (.ptr l ((start + i.toNat) * esz)) else none
    | _, _ => none
  | _ => none

def aindex (c : Ctx) (t : TypeId) (x ix : AV) : Option AV :=
  match ix with
  | .int _ i => (c.P.underlying t).bind fun d => match d, x with
    | .array len e, .agg cs => (szOf c.P e).bind fun n => if 0 ≤ i ∧ i < len then apart c e cs (i.toNat * n) else none
    | .string, .str s => if 0 ≤ i then (s[i.toNat]?).map fun b => .int .u8 b.toNat else none
    | _, _ => none
  | _ => none

def acmp (op : BinOp) (x y : Int) : Option AV :=
  match op with
  | .eql => some (.bool (x == y))
  | .neq => some (.bool (x != y))
  | .lss => some (.bool (decide (x < y)))
  | .leq => some (.bool (decide (x ≤ y)))
  | .gtr => some (.bool (decide (x > y)))
  | .geq => some (.bool (decide (x ≥ y)))
  | _ => none

def aint (op : BinOp) (k : IntKind) (a b : Int) : Option AV :=
  match op with
  | .add => some (.int k (k.wrap (a + b)))
  | .sub => some (.int k (k.wrap (a - b)))
  | .mul => some (.int k (k.wrap (a * b)))
  | .quo => if b = 0 then none else some (.int k (k.wrap (a.tdiv b)))
  | .rem => if b = 0 then none else some (.int k (a.tmod b))
  | .and => some (.int k (k.wrap (BitVec.ofInt k.bits a &&& BitVec.ofInt k.bits b).toNat))
  | .or => some (.int k (k.wrap (BitVec.ofInt k.bits a ||| BitVec.ofInt k.bits b).toNat))
  | .xor => some (.int k (k.wrap (BitVec.ofInt k.bits a ^^^ BitVec.ofInt k.bits b).toNat))
  | .andNot => some (.int k (k.wrap (BitVec.ofInt k.bits a &&& ~~~ BitVec.ofInt k.bits b).toNat))
  | .shl | .shr => none
  | op => acmp op a b

def astr (op : BinOp) (x y : List UInt8) : Option AV :=
  match op with
  | .add => if x.length + y.length ≤ 9223372036854775807 then some (.str (x ++ y)) else none
  | .eql => some (.bool (x == y))
  | .neq => some (.bool (!(x == y)))
  | .lss => some (.bool (Op.bytesLess x y))
  | .leq => some (.bool (Op.bytesLess x y || x == y))
  | .gtr => some (.bool (!(Op.bytesLess x y || x == y)))
  | .geq => some (.bool (!(Op.bytesLess x y)))
  | _ => none

/-- '==' of what is not a whole number or a text: bools, and something against nil -/
def aeq (d : TypeDesc) : AV → AV → Option Bool
  | .bool a, .bool b => match d with | .bool => some (a == b) | _ => none
  | .nilptr, .nilptr => match d with | .pointer _ => some true | _ => none
  | .nilptr, .ptr _ _ | .ptr _ _, .nilptr => match d with | .pointer _ => some false | _ => none
  | .nilslice, .nilslice => match d with | .slice _ => some true | _ => none
  | .nilslice, .slice _ _ _ _ | .slice _ _ _ _, .nilslice => match d with | .slice _ => some false | _ => none
  | .nilmap, .nilmap => match d with | .map _ _ => some true | _ => none
  | .nilmap, .map _ | .map _, .nilmap => match d with | .map _ _ => some false | _ => none
  | .nilfunc, .func _ _ _ | .func _ _ _, .nilfunc => match d with | .func _ _ _ => some false | _ => none
  | .niliface, .iface _ _ | .iface _ _, .niliface => match d with | .interface _ => some false | _ => none
  | _, _ => none

def aeqF (eq : TypeId → AV → AV → Option Bool) (c : Ctx) (xs ys : List AV) : List Field → Option Bool
  | [] => some true
  | f :: fs => if f.name = "_" then none else (apart c f.type xs f.offset).bind fun a => (apart c f.type ys f.offset).bind fun b => (eq f.type a b).bind fun r => if r then aeqF eq c xs ys fs else some false

/-- '==' of structs -/
def aeqT (c : Ctx) : Nat → TypeId → AV → AV → Option Bool
  | 0, _, _, _ => none
  | n + 1, t, x, y => (c.P.underlying t).bind fun d => match x, y with
    | .int k a, .int k' b => match d with | .int _ => if k = k' then some (a == b) else none | _ => none
    | .str a, .str b => match d with | .string => some (a == b) | _ => none
    | .agg xs, .agg ys => match d with
      | .struct fs => if c.P.stoodInHeld t then none else aeqF (aeqT c n) c xs ys fs.toList
      | _ => none
    | x, y => aeq d x y

def ashift (op : BinOp) (k : IntKind) (a b : Int) : Option AV :=
  if b < 0 then none else
  match op with
  | .shl => some (.int k (k.wrap (a * 2 ^ (min b.toNat k.bits))))
  | .shr => some (.int k (a.fdiv (2 ^ (min b.toNat k.bits))))
  | _ => none

def abin (c : Ctx) (op : BinOp) (t : TypeId) (x y : AV) : Option AV :=
  match x, y with
  | .int k a, .int k' b => match op with
    | .shl => ashift op k a b
    | .shr => ashift op k a b
    | op => if k = k' then aint op k a b else none
  | .str a, .str b => astr op a b
  | .agg xs, .agg ys => if c.P.eqGuardType c.P.depth t then none else match op with
    | .eql => (aeqT c 9 t (.agg xs) (.agg ys)).map .bool
    | .neq => (aeqT c 9 t (.agg xs) (.agg ys)).map fun b => .bool (!b)
    | _ => none
  | x, y => (c.P.underlying t).bind fun d => match op with
    | .eql => (aeq d x y).map .bool
    | .neq => (aeq d x y).map fun b => .bool (!b)
    | _ => none

def aun (op : UnOp) (x : AV) : Option AV :=
  match op, x with
  | .neg, .int k n => some (.int k (k.wrap (0 - n)))
  | .not, .bool b => some (.bool (!b))
  | .xor, .int k n => aint .xor k (if k.signed then -1 else k.max) n
  | _, _ => none

def aconv (c : Ctx) (src dst : TypeId) (x : AV) : Option AV :=
  (c.P.underlying src).bind fun _ => (c.P.underlying dst).bind fun d => match d, x with
  | .int k, .int _ n => some (.int k (k.wrap n))
  | .string, .str s => some (.str s)
  | _, _ => none

/-- keys: whole numbers, texts, bools -/
def keyEq (d : TypeDesc) : AV → AV → Option Bool
  | .int k a, .int k' b => match d with | .int _ => if k = k' then some (a == b) else none | _ => none
  | .str a, .str b => match d with | .string => some (a == b) | _ => none
  | .bool a, .bool b => match d with | .bool => some (a == b) | _ => none
  | _, _ => none

def findKey (d : TypeDesc) (k : AV) : List (AV × AV × Nat) → Nat → Option (Option (Nat × AV))
  | [], _ => some none
  | e :: es, i => (keyEq d k e.1).bind fun b => if b then some (some (i, e.2.1)) else findKey d k es (i + 1)

def keyOk (d : TypeDesc) : AV → Bool
  | .int _ _ => match d with | .int _ => true | _ => false
  | .str _ => match d with | .string => true | _ => false
  | .bool _ => match d with | .bool => true | _ => false
  | _ => false

def entries (H : AHeap) : AV → Option (List (AV × AV × Nat))
  | .nilmap => some []
  | .map (.own i) => match hat H i with | some (.map es _) => some es | _ => none
  | _ => none

def alookup (c : Ctx) (H : AHeap) (t : TypeId) (m k : AV) (ok : Bool) : Option AV :=
  (c.P.underlying t).bind fun d => match d with
  | .map kt vt => (c.P.underlying kt).bind fun kd => if keyOk kd k then
      (entries H m).bind fun es => (findKey kd k es 0).bind fun r => match r with
      | some (_, v) => some (if ok then .tuple [v, .bool true] else v)
      | none => (zeroAV c.P vt).map fun z => if ok then .tuple [z, .bool false] else z
    else none
  | _ => none

def amapUpdate (c : Ctx) (H : AHeap) (t : TypeId) (m k v : AV) : Option AHeap :=
  (c.P.underlying t).bind fun d => match d with
  | .map kt _ => (c.P.underlying kt).bind fun kd => if keyOk kd k then
      match m with
      | .map (.own i) => match hat H i with
        | some (.map es clock) => (findKey kd k es 0).bind fun r => match r with
          | some (j, _) => some (H.set i (some (.map (es.modify j fun e => (k, v, e.2.2)) clock)))
          | none => some (H.set i (some (.map (es ++ [(k, v, clock)]) (clock + 1))))
        | _ => none
      | _ => none
    else none
  | _ => none

/-- an entry that will be stored into: what it holds, and its birth -/
def amapEntry (c : Ctx) (H : AHeap) (t : TypeId) (m k : AV) : Option (AV × AHeap) :=
  (c.P.underlying t).bind fun d => match d with
  | .map kt vt => (c.P.underlying kt).bind fun kd => if keyOk kd k then
      match m with
      | .map (.own i) => match hat H i with
        | some (.map es clock) => (findKey kd k es 0).bind fun r => match r with
          | some (j, v) => some (.tuple [v, .int .i64 ((((es[j]?).map (·.2.2)).getD 0 : Nat) : Int)], H.set i (some (.map (es.modify j fun e => (k, e.2.1, e.2.2)) clock)))
          | none => (zeroAV c.P vt).map fun z => (.tuple [z, .int .i64 (clock : Int)], H.set i (some (.map (es ++ [(k, z, clock)]) (clock + 1))))
        | _ => none
      | _ => none
    else none
  | _ => none

def stampAt (born : Int) : List (AV × AV × Nat) → Nat → Option Nat
  | [], _ => none
  | e :: r, j => if (e.2.2 : Int) == born then some j else stampAt born r (j + 1)

def aentryStore (H : AHeap) (m s x : AV) : Option AHeap :=
  match m, s with
  | .map (.own i), .int _ born => match hat H i with
    | some (.map es clock) => (stampAt born es 0).map fun j => H.set i (some (.map (es.modify j fun e => (e.1, x, e.2.2)) clock))
    | _ => none
  | _, _ => none

def adelete (c : Ctx) (H : AHeap) (t : TypeId) (m k : AV) : Option AHeap :=
  (c.P.underlying t).bind fun d => match d with
  | .map kt _ => (c.P.underlying kt).bind fun kd => if keyOk kd k then
      match m with
      | .nilmap => some H
      | .map (.own i) => match hat H i with
        | some (.map es clock) => (findKey kd k es 0).bind fun r => match r with
          | some (j, _) => some (H.set i (some (.map (es.eraseIdx j) clock)))
          | none => some H
        | _ => none
      | _ => none
    else none
  | _ => none

def alen (c : Ctx) (H : AHeap) (t : TypeId) (x : AV) : Option AV :=
  (c.P.underlying t).bind fun d => match d, x with
  | .string, .str s => some (.int .i64 s.length)
  | .slice _, .nilslice => some (.int .i64 0)
  | .slice _, .slice _ _ _ n => some (.int .i64 n)
  | .slice _, .odd _ => some (.int .i64 0)
  | .array n _, _ => some (.int .i64 n)
  | .map _ _, m => (entries H m).map fun es => .int .i64 es.length
  | _, _ => none

def acopy (c : Ctx) (H : AHeap) (dt : TypeId) (dst src : AV) : Option (AV × AHeap) :=
  (c.P.underlying dt).bind fun d => match d with
  | .slice e => (szOf c.P e).bind fun n => (source c H n src).bind fun (sn, cs) => match dst with
    | .nilslice => some (.int .i64 0, H)
    | .slice l esz start dn => if esz = n then
        (if min sn dn = 0 then some (.int .i64 0, H) else (wr H l (start * esz) (cs.take (min sn dn * esz))).map fun H' => (.int .i64 (min sn dn : Nat), H')) else none
    | _ => none
  | _ => none

def aclear (c : Ctx) (H : AHeap) (t : TypeId) (x : AV) : Option AHeap :=
  (c.P.underlying t).bind fun d => match d, x with
  | .slice _, .nilslice => some H
  | .slice e, .slice l esz start n => if n = 0 then some H else
    (zeroCells c.P e).bind fun z => if z.length = esz then wr H l (start * esz) (reps n z) else none
  | .map _ _, .nilmap => some H
  | .map _ _, .map (.own i) => match hat H i with
    | some (.map _ clock) => some (H.set i (some (.map [] clock)))
    | _ => none
  | _, _ => none

def aminmax (mx : Bool) : List AV → Option AV
  | .int k x :: rest => rest.foldlM (fun v y => match v, y with
      | .int k x, .int k' y => if k = k' then some (.int k (if mx then (if x < y then y else x) else (if y < x then y else x))) else none
      | _, _ => none) (.int k x)
  | _ => none

inductive ARes where
  | val (v : AV)
  | skip
  | call (f : FuncId) (args : List AV)

def abuiltin (c : Ctx) (H : AHeap) (b : Builtin) (ts : List TypeId) (args : List AV) : Option (AV × AHeap) :=
  match b, ts, args with
  | .len, t :: _, [x] => (alen c H t x).map fun v => (v, H)
  | .append, t :: t2 :: _, [s, x] => (c.P.underlying t2).bind fun d => match d with | .int _ => none | _ => aappend c H t s x
  | .copy, t :: _, [d, s] => acopy c H t d s
  | .delete, t :: _, [m, k] => (adelete c H t m k).map fun H' => (.tuple [], H')
  | .clear, t :: _, [x] => (aclear c H t x).map fun H' => (.tuple [], H')
  | .max, _, l => (aminmax true l).map fun v => (v, H)
  | .min, _, l => (aminmax false l).map fun v => (v, H)
  | _, _, _ => none

/-- a function that has a body -/
def hasBody (P : Program) (f : FuncId) : Bool :=
  match P.funcs[f]? with
  | some fn => fn.body.isSome && !(fn.name == "runtime.NumGoroutine")
  | none => false

/-- a method of a value behind an interface: no embedded fields -/
def amethod (c : Ctx) (H : AHeap) (t : TypeId) (v : AV) (name : String) : Option (FuncId × AV) :=
  (c.P.info? t).bind fun i => (i.methods.find? (·.name == name)).bind fun m =>
    if m.path.isEmpty then m.func.bind fun fp => (c.P.underlying t).bind fun d => match d with
      | .pointer e => if fp.2 then some (fp.1, v) else (aload c H e v).map fun x => (fp.1, x)
      | _ => if fp.2 then none else some (fp.1, v)
    else none

/-- functions that the machine itself knows -/
def aext (P : Program) (f : FuncId) (args : List AV) : Option AV :=
  (P.funcs[f]?).bind fun fn =>
    if fn.body.isSome || (fn.name == "runtime.NumGoroutine" || !(fn.origin == "")) then none
    else if fn.name == "math/bits.Add64" then match args with
      | [.int .u64 x, .int .u64 y, .int .u64 k] => if 0 ≤ x ∧ 0 ≤ y ∧ 0 ≤ k ∧ k ≤ 1 then some (.tuple [.int .u64 ((x + y + k) % 18446744073709551616), .int .u64 ((x + y + k) / 18446744073709551616)]) else none
      | _ => none
    else if fn.name == "math/bits.Sub64" then match args with
      | [.int .u64 x, .int .u64 y, .int .u64 k] => if 0 ≤ x ∧ 0 ≤ y ∧ 0 ≤ k ∧ k ≤ 1 then
          some (.tuple [.int .u64 (((x.toNat + 18446744073709551616 - y.toNat - k.toNat) % 18446744073709551616 : Nat) : Int), .int .u64 ((if x.toNat < y.toNat + k.toNat then 1 else 0 : Nat) : Int)]) else none
      | _ => none
    else none

def acallee (c : Ctx) (H : AHeap) (env : AEnv) (cl : Call) : Option (ARes × AHeap) :=
  (avals env cl.args.toList).bind fun args => match cl.callee with
  | .builtin b => (abuiltin c H b cl.argTypes.toList args).map fun (v, H') => (.val v, H')
  | .value f => (aval env f).bind fun g => match g with
    | .func (.func f) first captured => if hasBody c.P f then some (.call f (first ++ args ++ captured), H) else (aext c.P f (first ++ args ++ captured)).map fun v => (.val v, H)
    | .func (.method name) first _ => match first ++ args with
      | .iface t v :: rest => (amethod c H t v name).bind fun (f, r) => if hasBody c.P f then some (.call f (r :: rest), H) else none
      | _ => none
    | _ => none
  | .invoke recv name => (aval env recv).bind fun r => match r with
    | .iface t v => (amethod c H t v name).bind fun (f, r) => if hasBody c.P f then some (.call f (r :: args), H) else none
    | _ => none

def pair (r : Option AV) (H : AHeap) : Option (ARes × AHeap) := r.map fun v => (.val v, H)
def both (r : Option (AV × AHeap)) : Option (ARes × AHeap) := r.map fun (v, H) => (.val v, H)
def done (r : Option AHeap) : Option (ARes × AHeap) := r.map fun H => (.skip, H)

def optval (env : AEnv) : Option Operand → Option (Option AV)
  | none => some none
  | some x => (aval env x).map some

def aop (c : Ctx) (env : AEnv) (o : Op) (H : AHeap) : Option (ARes × AHeap) :=
  match o with
  | .move x => pair (aval env x) H
  | .assign x => pair (aval env x) H
  | .pick q a b => (aval env q).bind fun v => match v with | .bool t => pair (if t then aval env a else aval env b) H | _ => none
  | .alloc t => (zeroCells c.P t).bind fun z => both (anew c H t z)
  | .box t x => (aval env x).bind fun v => both (anew c H t v.cells)
  | .build t ps => (mapO (fun p => (aval env p.2).map fun v => (p.1, v)) ps.toList).bind fun l => pair (abuild c t l) H
  | .buildSlice t n ps => (mapO (fun p => (aval env p.2).map fun v => (p.1, v)) ps.toList).bind fun l => both (abuildSlice c H t n l)
  | .load t a => (aval env a).bind fun p => pair (aload c H t p) H
  | .store t a x => (aval env a).bind fun p => (aval env x).bind fun v => done (astore c H t p v)
  | .nilCheck x => (aval env x).bind fun v => match v with
    | .ptr l off => some (.val (.ptr l off), H)
    | .func (.func f) a b => some (.val (.func (.func f) a b), H)
    | .iface t v => some (.val (.iface t v), H)
    | _ => none
  | .binOp op t x y _ => (aval env x).bind fun a => (aval env y).bind fun b => pair (abin c op t a b) H
  | .unOp op _ x => (aval env x).bind fun a => pair (aun op a) H
  | .convert src dst x => (aval env x).bind fun a => pair (aconv c src dst a) H
  | .makeInterface t x => (aval env x).bind fun a => (c.P.underlying t).bind fun d => match d with
    | .interface _ => none
    | _ => some (.val (.iface t a), H)
  | .makeFunc fn first captured => (avals env first.toList).bind fun a => (avals env captured.toList).bind fun b => some (.val (.func fn a b), H)
  | .makeMap t r => match r with
    | none => some (.val (.map (fresh H)), hnew H (.map [] 0))
    | some h => (aval env h).bind fun v => (c.P.underlying t).bind fun d => match v, d with
      | .int _ _, .map _ _ => some (.val (.map (fresh H)), hnew H (.map [] 0))
      | _, _ => none
  | .makeSlice t l m => (aval env l).bind fun a => (aval env m).bind fun b => both (amakeSlice c H t a b)
  | .slice t x lo hi mx => (aval env x).bind fun a => (optval env lo).bind fun l => (optval env hi).bind fun h => (optval env mx).bind fun m => both (aslice c H t a l h m)
  | .fieldAddr s x f => (aval env x).bind fun a => pair (afieldAddr c s a f) H
  | .field t x f => (aval env x).bind fun a => pair (afield c t a f) H
  | .indexAddr t x i => (aval env x).bind fun a => (aval env i).bind fun b => pair (aindexAddr c t a b) H
  | .index t x i => (aval env x).bind fun a => (aval env i).bind fun b => pair (aindex c t a b) H
  | .lookup t m k ok => (aval env m).bind fun a => (aval env k).bind fun b => pair (alookup c H t a b ok) H
  | .mapUpdate t m k v => (aval env m).bind fun a => (aval env k).bind fun b => (aval env v).bind fun x => done (amapUpdate c H t a b x)
  | .insert t m k v => (aval env m).bind fun a => (aval env k).bind fun b => (aval env v).bind fun x => done (amapUpdate c H t a b x)
  | .mapEntry t m k => (aval env m).bind fun a => (aval env k).bind fun b => both (amapEntry c H t a b)
  | .entryStore _ m s v => (aval env m).bind fun a => (aval env s).bind fun b => (aval env v).bind fun x => done (aentryStore H a b x)
  | .typeAssert x _ t ok => (aval env x).bind fun v => (c.P.underlying t).bind fun d => match d, v with
    | .interface _, _ => none
    | _, .iface u w => if u = t then some (.val (if ok then .tuple [w, .bool true] else w), H) else if ok then (zeroAV c.P t).map fun z => (.val (.tuple [z, .bool false]), H) else none
    | _, .niliface => if ok then (zeroAV c.P t).map fun z => (.val (.tuple [z, .bool false]), H) else none
    | _, _ => none
  | .extract x i => (aval env x).bind fun v => match v with | .tuple l => pair (l[i]?) H | _ => none
  | .call cl => acallee c H env cl
  | _ => none

def eput (env : AEnv) (d : Option Tmp) (v : Option AV) : AEnv := match d with
  | some t => match Nat.blt t env.size with
    | true => ⟨env.size, Tr.set v 20 t env.tr⟩
    | false => env
  | none => env

def argsTr : List AV → Nat → Tr → Tr
  | [], _, x => x
  | v :: r, i, x => argsTr r (i + 1) (Tr.set (some v) 20 i x)

/-- a function's temporaries at its start -/
def env0 (n : Nat) (args : List AV) : AEnv := ⟨args.length + (n - args.length), argsTr args 0 .leaf⟩

/-- what the functions called do -/
abbrev Callee := FuncId → List AV → AHeap → Option (AV × AHeap)

/-- what a temporary holds that has not been set -/
abbrev AV.undef : AV := .tuple []

def ayield (ops : List Oper) (env : AEnv) (j : Nat) : Option (Option Bool) :=
  match (ops[j]?).bind (·.dst) with
  | some t => match eget env t with
    | some (.bool b) => some (some b)
    | some (.tuple []) => some none
    | _ => none
  | none => none

/-- is the operation to be run? none: it can't be told -/
def awanted (ops : List Oper) (env : AEnv) (o : Oper) : Option Bool :=
  match o.guard with
  | none => some true
  | some (j, want) => (ayield ops env j).map (· == some want)

def astep (c : Ctx) (call : Callee) (ops : List Oper) (o : Oper) (env : AEnv) (H : AHeap) : Option (AEnv × AHeap) :=
  (awanted ops env o).bind fun w => if w then
    (aop c env o.op H).bind fun (r, H') => match r with
    | .val v => some (eput env o.dst (some v), H')
    | .skip => some (eput env o.dst (some .undef), H')
    | .call f args => (call f args H').bind fun (v, H'') => some (eput env o.dst (some v), H'')
  else some (eput env o.dst (some .undef), H)

def asteps (c : Ctx) (call : Callee) (ops : List Oper) : List Oper → AEnv → AHeap → Option (AEnv × AHeap)
  | [], env, H => some (env, H)
  | o :: r, env, H => (astep c call ops o env H).bind fun (env', H') => asteps c call ops r env' H'

inductive AExit where
  | normal
  | exit (id : Nat)
  | ret

abbrev ASt := AExit × AEnv × AHeap

def loopN (body : AEnv → AHeap → Option ASt) : Nat → AEnv → AHeap → Option ASt
  | 0, _, _ => none
  | n + 1, env, H => (body env H).bind fun (e, env', H') => match e with
    | .normal => loopN body n env' H'
    | e => some (e, env', H')

/-- a region that draws its order: what it does, where every order does the same -/
abbrev DrawOk := Ctx → Callee → List Oper → AEnv → AHeap → Option (AEnv × AHeap)

def acode (c : Ctx) (dr : DrawOk) (call : Callee) (lf : Nat) : Code → AEnv → AHeap → Option ASt
  | .skip, env, H => some (.normal, env, H)
  | .region _ ops draw, env, H =>
    (if draw then dr c call ops.toList env H else asteps c call ops.toList ops.toList env H).bind fun (env', H') => some (.normal, env', H')
  | .seq a b, env, H => (acode c dr call lf a env H).bind fun (e, env', H') => match e with
    | .normal => acode c dr call lf b env' H'
    | e => some (e, env', H')
  | .cond q a b, env, H => (aval env q).bind fun v => match v with
    | .bool t => if t then acode c dr call lf a env H else acode c dr call lf b env H
    | _ => none
  | .block id b, env, H => (acode c dr call lf b env H).bind fun (e, env', H') => match e with
    | .exit j => if j = id then some (.normal, env', H') else some (.exit j, env', H')
    | e => some (e, env', H')
  | .loop b, env, H => loopN (acode c dr call lf b) lf env H
  | .exit id, env, H => some (.exit id, env, H)
  | .label _, env, H => some (.normal, env, H)
  | .ret, env, H => some (.ret, env, H)
  | _, _, _ => none

def aresult (c : Ctx) (env : AEnv) (H : AHeap) : ResultVar → Option AV
  | .tmp t => eget env t
  | .cell a t => match eget env a with | some p => aload c H t p | _ => none

def aresults (c : Ctx) (fn : Func) (env : AEnv) (H : AHeap) : Option AV :=
  (mapO (aresult c env H) fn.results.toList).map fun vs => match vs with | [v] => v | vs => .tuple vs

/-- functions that are known otherwise -/
abbrev Prims := FuncId → Option (List AV → AHeap → Option (AV × AHeap))

def acall (c : Ctx) (dr : DrawOk) (gc : Callee → Callee) (pr : Prims) : Nat → Callee
  | 0, _, _, _ => none
  | k + 1, f, args, H =>
    match (pr f).bind fun g => g args H with
    | some r => some r
    | none => (c.P.funcs[f]?).bind fun fn => fn.body.bind fun b =>
      (acode c dr (gc (acall c dr gc pr k)) k b (env0 fn.ntmps args) H).bind fun (e, env, H') => match e with
      | .exit _ => none
      | _ => (aresults c fn env H').map fun v => (v, H')

end Go.AM
