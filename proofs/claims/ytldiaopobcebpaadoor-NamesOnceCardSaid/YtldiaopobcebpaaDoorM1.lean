/- Texts of the proof in one file (own work): AmCore, AmRel, AmOps1, AmOps2, AmOps3, AmOps4, AmOps5, AmOps6. -/
import Derived.Calls
import Derived.Below
import Derived.Laws.CopyRow
import Derived.WalkKit
import Derived.Laws.StructEq
import Derived.Laws.Strings
import Derived.WalkLawsBesides
import Derived.Laws.Append
/-
  AN ABSTRACT MACHINE for straight Go code of one goroutine (own work): values whose addresses are numbers of abstract blocks; slices without their spare room; a total function with fuel that runs a function's Code over an abstract heap. AmSound shows that what it tells is so in the model.
-/
namespace Go.AM

inductive Loc where
  | own (i : Nat)
  | ext (path : List Nat)
  deriving DecidableEq

inductive AV where
  | bool (b : Bool)
  | int (k : IntKind) (n : Int)
  | str (s : List UInt8)
  | nilptr
  | ptr (l : Loc) (off : Nat)
  | nilslice
  | slice (l : Loc) (esz start len : Nat)
  /-- a slice without room, whatever its address is -/
  | odd (a : Addr)
  | nilmap
  | map (l : Loc)
  | nilfunc
  | func (fn : Fn) (first captured : List AV)
  | niliface
  | iface (t : TypeId) (v : AV)
  | agg (l : List AV)
  | tuple (l : List AV)

instance : Inhabited AV := ⟨.niliface⟩

def AV.cells : AV → List AV
  | .agg l => l
  | v => [v]

/-- may the value stand in one cell? -/
def AV.one : AV → Bool
  | .agg _ | .tuple _ => false
  | _ => true

inductive AObj where
  /-- a row of cells: its element type, the cells of one element, the cells -/
  | row (ty : TypeId) (esz : Nat) (cells : List AV)
  /-- what an empty slice leads to; true: its capacity is 0 -/
  | empty (cap0 : Bool)
  | map (es : List (AV × AV × Nat)) (clock : Nat)
  | siter (s : List UInt8) (pos : Nat)
  | miter (m : Option Loc) (since : Nat) (seen : List Nat) (stepped : Nat)

abbrev AHeap := List (Option AObj)

/-- what a function's temporaries hold: a tree by their numbers' bits -/
inductive Tr where
  | leaf
  | node (v : Option AV) (l r : Tr)

def Tr.get : Nat → Nat → Tr → Option AV
  | 0, _, _ => none
  | _ + 1, _, .leaf => none
  | _ + 1, 0, .node v _ _ => v
  | d + 1, q + 1, .node _ l r => match Nat.beq (q % 2) 1 with
    | true => Tr.get d (q / 2) r
    | false => Tr.get d (q / 2) l

def Tr.set (v : Option AV) : Nat → Nat → Tr → Tr
  | 0, _, x => x
  | _ + 1, 0, .leaf => .node v .leaf .leaf
  | d + 1, q + 1, .leaf => match Nat.beq (q % 2) 1 with
    | true => .node none .leaf (Tr.set v d (q / 2) .leaf)
    | false => .node none (Tr.set v d (q / 2) .leaf) .leaf
  | _ + 1, 0, .node _ l r => .node v l r
  | d + 1, q + 1, .node u l r => match Nat.beq (q % 2) 1 with
    | true => .node u l (Tr.set v d (q / 2) r)
    | false => .node u (Tr.set v d (q / 2) l) r

structure AEnv where
  size : Nat
  tr : Tr

def eget (env : AEnv) (t : Nat) : Option AV := match Nat.blt t env.size with
  | true => Tr.get 20 t env.tr
  | false => none

def hat (H : AHeap) (i : Nat) : Option AObj := match H[i]? with | some o => o | none => none

structure Ctx where
  P : Program
  G : List Nat → Option (List AV)

/-- one constant cell -/
def scAV : Value → Option AV
  | .bool b => some (.bool b)
  | .int k n => some (.int k n)
  | .string s => some (.str s.data.toList)
  | .pointer none => some .nilptr
  | .slice none 0 0 => some .nilslice
  | .map none => some .nilmap
  | .nilFunc => some .nilfunc
  | .nilIface => some .niliface
  | _ => none

def mapO {α β : Type} (f : α → Option β) : List α → Option (List β)
  | [] => some []
  | x :: r => (f x).bind fun y => (mapO f r).bind fun z => some (y :: z)

def constAV : Value → Option AV
  | .agg cs => (mapO scAV cs.toList).map .agg
  | .tuple cs => if cs.size = 0 then some (.tuple []) else none
  | v => scAV v

def aval (env : AEnv) : Operand → Option AV
  | .tmp t => eget env t
  | .const v => constAV v
  | .global g => some (.ptr (.ext [0, g]) 0)
  | .func f => some (.func (.func f) [] [])

def avals (env : AEnv) (xs : List Operand) : Option (List AV) := mapO (aval env) xs

def rowOf (c : Ctx) (H : AHeap) : Loc → Option (List AV)
  | .own i => match hat H i with | some (.row _ _ cs) => some cs | _ => none
  | .ext p => c.G p

/-- n cells from off on -/
def rd (c : Ctx) (H : AHeap) (l : Loc) (off n : Nat) : Option (List AV) :=
  (rowOf c H l).bind fun cs => if off + n ≤ cs.length then some ((cs.drop off).take n) else none

def setSeg (cs : List AV) (off : Nat) (vs : List AV) : List AV := cs.take off ++ (vs ++ cs.drop (off + vs.length))

/-- cells written -/
def wr (H : AHeap) (l : Loc) (off : Nat) (vs : List AV) : Option AHeap :=
  match l with
  | .own i => match hat H i with
    | some (.row ty esz cs) => if off + vs.length ≤ cs.length ∧ vs.all AV.one then some (H.set i (some (.row ty esz (setSeg cs off vs)))) else none
    | _ => none
  | .ext _ => none

def szOf (P : Program) (t : TypeId) : Option Nat := (P.info? t).map (·.size)
def isAggT (P : Program) (t : TypeId) : Option Bool :=
  (P.underlying t).map fun | .struct _ | .array _ _ => true | _ => false

/-- a type's zero value, in cells -/
def zeroCells (P : Program) (t : TypeId) : Option (List AV) :=
  (P.info? t).bind fun i => i.zero.bind fun z => mapO scAV z.cells.toList

def zeroAV (P : Program) (t : TypeId) : Option AV :=
  (P.info? t).bind fun i => i.zero.bind constAV

def fresh (H : AHeap) : Loc := .own H.length
def hnew (H : AHeap) (o : AObj) : AHeap := H ++ [some o]

def aload (c : Ctx) (H : AHeap) (t : TypeId) : AV → Option AV
  | .ptr l off => (isAggT c.P t).bind fun ag =>
    if ag then (szOf c.P t).bind fun n => (rd c H l off n).map .agg
    else (rd c H l off 1).bind fun vs => match vs with | [v] => some v | _ => none
  | _ => none

def astore (c : Ctx) (H : AHeap) (t : TypeId) (a v : AV) : Option AHeap :=
  match a with
  | .ptr l off => (szOf c.P t).bind fun n => if v.cells.length = n then wr H l off v.cells else none
  | _ => none

/-- a new variable -/
def anew (c : Ctx) (H : AHeap) (t : TypeId) (cells : List AV) : Option (AV × AHeap) :=
  (szOf c.P t).bind fun n => if cells.length = n ∧ cells.all AV.one then some (.ptr (fresh H) 0, hnew H (.row t n cells)) else none

def afill (place : Nat → Option (Nat × Nat)) (cells : List AV) : List (Nat × AV) → Option (List AV)
  | [] => some cells
  | (i, v) :: rest => (place i).bind fun p =>
    if v.cells.length = p.2 ∧ p.1 + p.2 ≤ cells.length ∧ v.cells.all AV.one then afill place (setSeg cells p.1 v.cells) rest else none

def fieldPlaces (P : Program) (fs : List Field) : Option (List (Nat × Nat)) :=
  mapO (fun f => (szOf P f.type).map fun n => (f.offset, n)) fs

def abuild (c : Ctx) (t : TypeId) (parts : List (Nat × AV)) : Option AV :=
  (zeroCells c.P t).bind fun z => (c.P.underlying t).bind fun d => match d with
  | .struct fs => (fieldPlaces c.P fs.toList).bind fun ps => (afill (fun i => ps[i]?) z parts).map .agg
  | .array _ e => (szOf c.P e).bind fun n => (afill (fun i => some (i * n, n)) z parts).map .agg
  | _ => none

def reps (n : Nat) (z : List AV) : List AV := match n with | 0 => [] | n + 1 => z ++ reps n z

def abuildSlice (c : Ctx) (H : AHeap) (t : TypeId) (len : Nat) (parts : List (Nat × AV)) : Option (AV × AHeap) :=
  (c.P.underlying t).bind fun d => match d with
  | .slice e => (szOf c.P e).bind fun n => (zeroCells c.P e).bind fun z =>
    if len * n ≤ 2 ^ 24 ∧ z.length = n ∧ 0 < n ∧ 0 < len ∧ z.all AV.one then
      (afill (fun i => some (i * n, n)) (reps len z) parts).map fun cs => (.slice (fresh H) n 0 len, hnew H (.row e n cs))
    else if parts = [] ∧ len = 0 ∧ 0 < n then some (.slice (fresh H) n 0 0, hnew H (.row e n []))
    else none
  | _ => none

def amakeSlice (c : Ctx) (H : AHeap) (t : TypeId) : AV → AV → Option (AV × AHeap)
  | .int _ l, .int _ m => (c.P.underlying t).bind fun d => match d with
    | .slice e => (c.P.info? e).bind fun i => (zeroCells c.P e).bind fun z =>
      if 0 ≤ l ∧ l ≤ m ∧ i.bytes * m ≤ 2 ^ 47 ∧ m < 2 ^ 63 ∧ z.length = i.size ∧ 0 < i.size ∧ z.all AV.one then
        some (.slice (fresh H) i.size 0 l.toNat, hnew H (.row e i.size (reps m.toNat z)))
      else none
    | _ => none
  | _, _ => none

def bytesAV (s : List UInt8) : List AV := s.map fun b => .int .u8 b.toNat

/-- the first cells of what is appended or copied: how many elements, the cells -/
def source (c : Ctx) (H : AHeap) (esz : Nat) : AV → Option (Nat × List AV)
  | .nilslice => some (0, [])
  | .str s => if esz = 1 then some (s.length, bytesAV s) else none
  | .odd _ => some (0, [])
  | .slice l e start n => if e = esz then (if n = 0 then some (0, []) else (rd c H l (start * esz) (n * esz)).map fun cs => (n, cs)) else none
  | _ => none

def aappend (c : Ctx) (H : AHeap) (st : TypeId) (s x : AV) : Option (AV × AHeap) :=
  (c.P.underlying st).bind fun d => match d with
  | .slice e => (c.P.info? e).bind fun i => (zeroCells c.P e).bind fun z =>
    if 0 < i.size ∧ 0 < i.bytes ∧ z.length = i.size then
    (source c H i.size x).bind fun (n, cs) =>
    if n = 0 then match s with | .nilslice => some (s, H) | .slice _ _ _ _ => some (s, H) | _ => none
    else match s with
    | .nilslice => if n * i.bytes ≤ 2 ^ 47 ∧ cs.all AV.one then some (.slice (fresh H) i.size 0 n, hnew H (.row e i.size cs)) else none
    | .slice (.own b) esz start len =>
      if esz = i.size ∧ cs.all AV.one then match hat H b with
      | some (.row ty esz' old) =>
        if ty = e ∧ esz' = esz ∧ (start + len) * esz ≤ old.length then
          if (start + len + n) * esz ≤ old.length then some (.slice (.own b) esz start (len + n), H.set b (some (.row ty esz (setSeg old ((start + len) * esz) cs))))
          else if (len + n) * i.bytes ≤ 2 ^ 47 then
            some (.slice (fresh H) esz 0 (len + n), hnew (H.set b none) (.row ty esz ((old.drop (start * esz)).take (len * esz) ++ cs)))
          else none
        else none
      | some (.empty true) => if len = 0 ∧ start = 0 ∧ n * i.bytes ≤ 2 ^ 47 then some (.slice (fresh H) esz 0 n, hnew H (.row e esz cs)) else none
      | _ => none
      else none
    | _ => none
    else none
  | _ => none

def abound (x : Option AV) (dflt : Nat) : Option Nat :=
  match x with
  | none => some dflt
  | some (.int _ i) => if 0 ≤ i then some i.toNat else none
  | _ => none

/-- has the row so many elements? -/
def ownRow (H : AHeap) (l : Loc) (esz k : Nat) : Bool :=
  match l with
  | .own i => match hat H i with | some (.row _ e cs) => decide (e = esz ∧ 0 < esz ∧ k * esz ≤ cs.length) | _ => false
  | .ext _ => false

def aslice (c : Ctx) (H : AHeap) (t : TypeId) (x : AV) (lo hi mx : Option AV) : Option (AV × AHeap) :=
  (c.P.underlying t).bind fun d => match d, x with
  | .string, .str s => if mx.isSome then none else
    (abound lo 0).bind fun l => (abound hi s.length).bind fun h =>
    if l ≤ h ∧ h ≤ s.length then some (.str ((s.drop l).take (h - l)), H) else none
  | .slice e, .nilslice => if mx.isSome then none else (szOf c.P e).bind fun _ => (abound lo 0).bind fun l => (abound hi 0).bind fun h => if l = 0 ∧ h = 0 then some (.nilslice, H) else none
  | .slice e, .slice loc esz start len =>
    (szOf c.P e).bind fun n => if n ≠ esz then none else
    (abound lo 0).bind fun l =>
    match mx with
    | some m => (abound hi 0).bind fun h => (abound (some m) 0).bind fun m =>
      if l = 0 ∧ h = 0 ∧ m = 0 ∧ hi.isSome then some (.slice (fresh H) esz 0 0, hnew H (.empty true)) else none
    | none =>
      (abound hi len).bind fun h =>
      if l ≤ h ∧ (h ≤ len ∨ ownRow H loc esz (start + h) = true) then
        if l = 0 then some (.slice loc esz start h, H)
        else if l < h then some (.slice loc esz (start + l) (h - l), H)
        else some (.slice (fresh H) esz 0 0, hnew H (.empty false))
      else none
  | _, _ => none

def afieldAddr (c : Ctx) (s : TypeId) (x : AV) (f : Nat) : Option AV :=
  match x with
  | .ptr l off => (c.P.underlying s).bind fun d => match d with
    | .struct fs => (fs[f]?).bind fun g => (szOf c.P g.type).bind fun n => if n = 0 then none else some (.ptr l (off + g.offset))
    | _ => none
  | _ => none

def apart (c : Ctx) (t : TypeId) (cs : List AV) (off : Nat) : Option AV :=
  (isAggT c.P t).bind fun ag =>
    if ag then (szOf c.P t).bind fun n => if off + n ≤ cs.length then some (.agg ((cs.drop off).take n)) else none
    else cs[off]?

def afield (c : Ctx) (t : TypeId) (x : AV) (f : Nat) : Option AV :=
  match x with
  | .agg cs => (c.P.underlying t).bind fun d => match d with
    | .struct fs => (fs[f]?).bind fun g => apart c g.type cs g.offset
    | _ => none
  | _ => none

def aindexAddr (c : Ctx) (t : TypeId) (x ix : AV) : Option AV :=
  match ix with
  | .int _ i => (c.P.underlying t).bind fun d => match d, x with
    | .array len e, .ptr l off => (szOf c.P e).bind fun n => if 0 ≤ i ∧ i < len then some (.ptr l (off + i.toNat * n)) else none
    | .slice e, .slice l esz start len => (szOf c.P e).bind fun n => if n = esz ∧ 0 ≤ i ∧ i < len then some (.ptr l ((start + i.toNat) * esz)) else none
    | _, _ => none
  | _ => none

def aindex (c : Ctx) (t : TypeId) (x ix : AV) : Option AV :=
  match ix with
  | .int _ i => (c.P.underlying t).bind fun d => match d, x with
    | .array len e, .agg cs => (szOf c.P e).bind fun n => if 0 ≤ i ∧ i < len then apart c e cs (i.toNat * n) else none
    | .string, .str s => if 0 ≤ i then (s[i.toNat]?).map fun b => .int .u8 b.toNat else none
    | _, _ => none
  | _ => none

def acmp (op : BinOp) (x y : Int) : Option AV :=
  match op with
  | .eql => some (.bool (x == y))
  | .neq => some (.bool (x != y))
  | .lss => some (.bool (decide (x < y)))
  | .leq => some (.bool (decide (x ≤ y)))
  | .gtr => some (.bool (decide (x > y)))
  | .geq => some (.bool (decide (x ≥ y)))
  | _ => none

def aint (op : BinOp) (k : IntKind) (a b : Int) : Option AV :=
  match op with
  | .add => some (.int k (k.wrap (a + b)))
  | .sub => some (.int k (k.wrap (a - b)))
  | .mul => some (.int k (k.wrap (a * b)))
  | .quo => if b = 0 then none else some (.int k (k.wrap (a.tdiv b)))
  | .rem => if b = 0 then none else some (.int k (a.tmod b))
  | .and => some (.int k (k.wrap (BitVec.ofInt k.bits a &&& BitVec.ofInt k.bits b).toNat))
  | .or => some (.int k (k.wrap (BitVec.ofInt k.bits a ||| BitVec.ofInt k.bits b).toNat))
  | .xor => some (.int k (k.wrap (BitVec.ofInt k.bits a ^^^ BitVec.ofInt k.bits b).toNat))
  | .andNot => some (.int k (k.wrap (BitVec.ofInt k.bits a &&& ~~~ BitVec.ofInt k.bits b).toNat))
  | .shl | .shr => none
  | op => acmp op a b

def astr (op : BinOp) (x y : List UInt8) : Option AV :=
  match op with
  | .add => if x.length + y.length ≤ 9223372036854775807 then some (.str (x ++ y)) else none
  | .eql => some (.bool (x == y))
  | .neq => some (.bool (!(x == y)))
  | .lss => some (.bool (Op.bytesLess x y))
  | .leq => some (.bool (Op.bytesLess x y || x == y))
  | .gtr => some (.bool (!(Op.bytesLess x y || x == y)))
  | .geq => some (.bool (!(Op.bytesLess x y)))
  | _ => none

/-- '==' of what is not a whole number or a text: bools, and something against nil -/
def aeq (d : TypeDesc) : AV → AV → Option Bool
  | .bool a, .bool b => match d with | .bool => some (a == b) | _ => none
  | .nilptr, .nilptr => match d with | .pointer _ => some true | _ => none
  | .nilptr, .ptr _ _ | .ptr _ _, .nilptr => match d with | .pointer _ => some false | _ => none
  | .nilslice, .nilslice => match d with | .slice _ => some true | _ => none
  | .nilslice, .slice _ _ _ _ | .slice _ _ _ _, .nilslice => match d with | .slice _ => some false | _ => none
  | .nilmap, .nilmap => match d with | .map _ _ => some true | _ => none
  | .nilmap, .map _ | .map _, .nilmap => match d with | .map _ _ => some false | _ => none
  | .nilfunc, .func _ _ _ | .func _ _ _, .nilfunc => match d with | .func _ _ _ => some false | _ => none
  | .niliface, .iface _ _ | .iface _ _, .niliface => match d with | .interface _ => some false | _ => none
  | _, _ => none

def aeqF (eq : TypeId → AV → AV → Option Bool) (c : Ctx) (xs ys : List AV) : List Field → Option Bool
  | [] => some true
  | f :: fs => if f.name = "_" then none else (apart c f.type xs f.offset).bind fun a => (apart c f.type ys f.offset).bind fun b => (eq f.type a b).bind fun r => if r then aeqF eq c xs ys fs else some false

/-- '==' of structs -/
def aeqT (c : Ctx) : Nat → TypeId → AV → AV → Option Bool
  | 0, _, _, _ => none
  | n + 1, t, x, y => (c.P.underlying t).bind fun d => match x, y with
    | .int k a, .int k' b => match d with | .int _ => if k = k' then some (a == b) else none | _ => none
    | .str a, .str b => match d with | .string => some (a == b) | _ => none
    | .agg xs, .agg ys => match d with
      | .struct fs => if c.P.stoodInHeld t then none else aeqF (aeqT c n) c xs ys fs.toList
      | _ => none
    | x, y => aeq d x y

def ashift (op : BinOp) (k : IntKind) (a b : Int) : Option AV :=
  if b < 0 then none else
  match op with
  | .shl => some (.int k (k.wrap (a * 2 ^ (min b.toNat k.bits))))
  | .shr => some (.int k (a.fdiv (2 ^ (min b.toNat k.bits))))
  | _ => none

def abin (c : Ctx) (op : BinOp) (t : TypeId) (x y : AV) : Option AV :=
  match x, y with
  | .int k a, .int k' b => match op with
    | .shl => ashift op k a b
    | .shr => ashift op k a b
    | op => if k = k' then aint op k a b else none
  | .str a, .str b => astr op a b
  | .agg xs, .agg ys => if c.P.eqGuardType c.P.depth t then none else match op with
    | .eql => (aeqT c 9 t (.agg xs) (.agg ys)).map .bool
    | .neq => (aeqT c 9 t (.agg xs) (.agg ys)).map fun b => .bool (!b)
    | _ => none
  | x, y => (c.P.underlying t).bind fun d => match op with
    | .eql => (aeq d x y).map .bool
    | .neq => (aeq d x y).map fun b => .bool (!b)
    | _ => none

def aun (op : UnOp) (x : AV) : Option AV :=
  match op, x with
  | .neg, .int k n => some (.int k (k.wrap (0 - n)))
  | .not, .bool b => some (.bool (!b))
  | .xor, .int k n => aint .xor k (if k.signed then -1 else k.max) n
  | _, _ => none

def aconv (c : Ctx) (src dst : TypeId) (x : AV) : Option AV :=
  (c.P.underlying src).bind fun _ => (c.P.underlying dst).bind fun d => match d, x with
  | .int k, .int _ n => some (.int k (k.wrap n))
  | .string, .str s => some (.str s)
  | _, _ => none

/-- keys: whole numbers, texts, bools -/
def keyEq (d : TypeDesc) : AV → AV → Option Bool
  | .int k a, .int k' b => match d with | .int _ => if k = k' then some (a == b) else none | _ => none
  | .str a, .str b => match d with | .string => some (a == b) | _ => none
  | .bool a, .bool b => match d with | .bool => some (a == b) | _ => none
  | _, _ => none

def findKey (d : TypeDesc) (k : AV) : List (AV × AV × Nat) → Nat → Option (Option (Nat × AV))
  | [], _ => some none
  | e :: es, i => (keyEq d k e.1).bind fun b => if b then some (some (i, e.2.1)) else findKey d k es (i + 1)

def keyOk (d : TypeDesc) : AV → Bool
  | .int _ _ => match d with | .int _ => true | _ => false
  | .str _ => match d with | .string => true | _ => false
  | .bool _ => match d with | .bool => true | _ => false
  | _ => false

def entries (H : AHeap) : AV → Option (List (AV × AV × Nat))
  | .nilmap => some []
  | .map (.own i) => match hat H i with | some (.map es _) => some es | _ => none
  | _ => none

def alookup (c : Ctx) (H : AHeap) (t : TypeId) (m k : AV) (ok : Bool) : Option AV :=
  (c.P.underlying t).bind fun d => match d with
  | .map kt vt => (c.P.underlying kt).bind fun kd => if keyOk kd k then
      (entries H m).bind fun es => (findKey kd k es 0).bind fun r => match r with
      | some (_, v) => some (if ok then .tuple [v, .bool true] else v)
      | none => (zeroAV c.P vt).map fun z => if ok then .tuple [z, .bool false] else z
    else none
  | _ => none

def amapUpdate (c : Ctx) (H : AHeap) (t : TypeId) (m k v : AV) : Option AHeap :=
  (c.P.underlying t).bind fun d => match d with
  | .map kt _ => (c.P.underlying kt).bind fun kd => if keyOk kd k then
      match m with
      | .map (.own i) => match hat H i with
        | some (.map es clock) => (findKey kd k es 0).bind fun r => match r with
          | some (j, _) => some (H.set i (some (.map (es.modify j fun e => (k, v, e.2.2)) clock)))
          | none => some (H.set i (some (.map (es ++ [(k, v, clock)]) (clock + 1))))
        | _ => none
      | _ => none
    else none
  | _ => none

/-- an entry that will be stored into: what it holds, and its birth -/
def amapEntry (c : Ctx) (H : AHeap) (t : TypeId) (m k : AV) : Option (AV × AHeap) :=
  (c.P.underlying t).bind fun d => match d with
  | .map kt vt => (c.P.underlying kt).bind fun kd => if keyOk kd k then
      match m with
      | .map (.own i) => match hat H i with
        | some (.map es clock) => (findKey kd k es 0).bind fun r => match r with
          | some (j, v) => some (.tuple [v, .int .i64 ((((es[j]?).map (·.2.2)).getD 0 : Nat) : Int)], H.set i (some (.map (es.modify j fun e => (k, e.2.1, e.2.2)) clock)))
          | none => (zeroAV c.P vt).map fun z => (.tuple [z, .int .i64 (clock : Int)], H.set i (some (.map (es ++ [(k, z, clock)]) (clock + 1))))
        | _ => none
      | _ => none
    else none
  | _ => none

def stampAt (born : Int) : List (AV × AV × Nat) → Nat → Option Nat
  | [], _ => none
  | e :: r, j => if (e.2.2 : Int) == born then some j else stampAt born r (j + 1)

def aentryStore (H : AHeap) (m s x : AV) : Option AHeap :=
  match m, s with
  | .map (.own i), .int _ born => match hat H i with
    | some (.map es clock) => (stampAt born es 0).map fun j => H.set i (some (.map (es.modify j fun e => (e.1, x, e.2.2)) clock))
    | _ => none
  | _, _ => none

def adelete (c : Ctx) (H : AHeap) (t : TypeId) (m k : AV) : Option AHeap :=
  (c.P.underlying t).bind fun d => match d with
  | .map kt _ => (c.P.underlying kt).bind fun kd => if keyOk kd k then
      match m with
      | .nilmap => some H
      | .map (.own i) => match hat H i with
        | some (.map es clock) => (findKey kd k es 0).bind fun r => match r with
          | some (j, _) => some (H.set i (some (.map (es.eraseIdx j) clock)))
          | none => some H
        | _ => none
      | _ => none
    else none
  | _ => none

def alen (c : Ctx) (H : AHeap) (t : TypeId) (x : AV) : Option AV :=
  (c.P.underlying t).bind fun d => match d, x with
  | .string, .str s => some (.int .i64 s.length)
  | .slice _, .nilslice => some (.int .i64 0)
  | .slice _, .slice _ _ _ n => some (.int .i64 n)
  | .slice _, .odd _ => some (.int .i64 0)
  | .array n _, _ => some (.int .i64 n)
  | .map _ _, m => (entries H m).map fun es => .int .i64 es.length
  | _, _ => none

def acopy (c : Ctx) (H : AHeap) (dt : TypeId) (dst src : AV) : Option (AV × AHeap) :=
  (c.P.underlying dt).bind fun d => match d with
  | .slice e => (szOf c.P e).bind fun n => (source c H n src).bind fun (sn, cs) => match dst with
    | .nilslice => some (.int .i64 0, H)
    | .slice l esz start dn => if esz = n then
        (if min sn dn = 0 then some (.int .i64 0, H) else (wr H l (start * esz) (cs.take (min sn dn * esz))).map fun H' => (.int .i64 (min sn dn : Nat), H')) else none
    | _ => none
  | _ => none

def aclear (c : Ctx) (H : AHeap) (t : TypeId) (x : AV) : Option AHeap :=
  (c.P.underlying t).bind fun d => match d, x with
  | .slice _, .nilslice => some H
  | .slice e, .slice l esz start n => if n = 0 then some H else
    (zeroCells c.P e).bind fun z => if z.length = esz then wr H l (start * esz) (reps n z) else none
  | .map _ _, .nilmap => some H
  | .map _ _, .map (.own i) => match hat H i with
    | some (.map _ clock) => some (H.set i (some (.map [] clock)))
    | _ => none
  | _, _ => none

def aminmax (mx : Bool) : List AV → Option AV
  | .int k x :: rest => rest.foldlM (fun v y => match v, y with
      | .int k x, .int k' y => if k = k' then some (.int k (if mx then (if x < y then y else x) else (if y < x then y else x))) else none
      | _, _ => none) (.int k x)
  | _ => none

inductive ARes where
  | val (v : AV)
  | skip
  | call (f : FuncId) (args : List AV)

def abuiltin (c : Ctx) (H : AHeap) (b : Builtin) (ts : List TypeId) (args : List AV) : Option (AV × AHeap) :=
  match b, ts, args with
  | .len, t :: _, [x] => (alen c H t x).map fun v => (v, H)
  | .append, t :: t2 :: _, [s, x] => (c.P.underlying t2).bind fun d => match d with | .int _ => none | _ => aappend c H t s x
  | .copy, t :: _, [d, s] => acopy c H t d s
  | .delete, t :: _, [m, k] => (adelete c H t m k).map fun H' => (.tuple [], H')
  | .clear, t :: _, [x] => (aclear c H t x).map fun H' => (.tuple [], H')
  | .max, _, l => (aminmax true l).map fun v => (v, H)
  | .min, _, l => (aminmax false l).map fun v => (v, H)
  | _, _, _ => none

/-- a function that has a body -/
def hasBody (P : Program) (f : FuncId) : Bool :=
  match P.funcs[f]? with
  | some fn => fn.body.isSome && !(fn.name == "runtime.NumGoroutine")
  | none => false

/-- a method of a value behind an interface: no embedded fields -/
def amethod (c : Ctx) (H : AHeap) (t : TypeId) (v : AV) (name : String) : Option (FuncId × AV) :=
  (c.P.info? t).bind fun i => (i.methods.find? (·.name == name)).bind fun m =>
    if m.path.isEmpty then m.func.bind fun fp => (c.P.underlying t).bind fun d => match d with
      | .pointer e => if fp.2 then some (fp.1, v) else (aload c H e v).map fun x => (fp.1, x)
      | _ => if fp.2 then none else some (fp.1, v)
    else none

/-- functions that the machine itself knows -/
def aext (P : Program) (f : FuncId) (args : List AV) : Option AV :=
  (P.funcs[f]?).bind fun fn =>
    if fn.body.isSome || (fn.name == "runtime.NumGoroutine" || !(fn.origin == "")) then none
    else if fn.name == "math/bits.Add64" then match args with
      | [.int .u64 x, .int .u64 y, .int .u64 k] => if 0 ≤ x ∧ 0 ≤ y ∧ 0 ≤ k ∧ k ≤ 1 then some (.tuple [.int .u64 ((x + y + k) % 18446744073709551616), .int .u64 ((x + y + k) / 18446744073709551616)]) else none
      | _ => none
    else if fn.name == "math/bits.Sub64" then match args with
      | [.int .u64 x, .int .u64 y, .int .u64 k] => if 0 ≤ x ∧ 0 ≤ y ∧ 0 ≤ k ∧ k ≤ 1 then
          some (.tuple [.int .u64 (((x.toNat + 18446744073709551616 - y.toNat - k.toNat) % 18446744073709551616 : Nat) : Int), .int .u64 ((if x.toNat < y.toNat + k.toNat then 1 else 0 : Nat) : Int)]) else none
      | _ => none
    else none

def acallee (c : Ctx) (H : AHeap) (env : AEnv) (cl : Call) : Option (ARes × AHeap) :=
  (avals env cl.args.toList).bind fun args => match cl.callee with
  | .builtin b => (abuiltin c H b cl.argTypes.toList args).map fun (v, H') => (.val v, H')
  | .value f => (aval env f).bind fun g => match g with
    | .func (.func f) first captured => if hasBody c.P f then some (.call f (first ++ args ++ captured), H) else (aext c.P f (first ++ args ++ captured)).map fun v => (.val v, H)
    | .func (.method name) first _ => match first ++ args with
      | .iface t v :: rest => (amethod c H t v name).bind fun (f, r) => if hasBody c.P f then some (.call f (r :: rest), H) else none
      | _ => none
    | _ => none
  | .invoke recv name => (aval env recv).bind fun r => match r with
    | .iface t v => (amethod c H t v name).bind fun (f, r) => if hasBody c.P f then some (.call f (r :: args), H) else none
    | _ => none

def pair (r : Option AV) (H : AHeap) : Option (ARes × AHeap) := r.map fun v => (.val v, H)
def both (r : Option (AV × AHeap)) : Option (ARes × AHeap) := r.map fun (v, H) => (.val v, H)
def done (r : Option AHeap) : Option (ARes × AHeap) := r.map fun H => (.skip, H)

def optval (env : AEnv) : Option Operand → Option (Option AV)
  | none => some none
  | some x => (aval env x).map some

def aop (c : Ctx) (env : AEnv) (o : Op) (H : AHeap) : Option (ARes × AHeap) :=
  match o with
  | .move x => pair (aval env x) H
  | .assign x => pair (aval env x) H
  | .pick q a b => (aval env q).bind fun v => match v with | .bool t => pair (if t then aval env a else aval env b) H | _ => none
  | .alloc t => (zeroCells c.P t).bind fun z => both (anew c H t z)
  | .box t x => (aval env x).bind fun v => both (anew c H t v.cells)
  | .build t ps => (mapO (fun p => (aval env p.2).map fun v => (p.1, v)) ps.toList).bind fun l => pair (abuild c t l) H
  | .buildSlice t n ps => (mapO (fun p => (aval env p.2).map fun v => (p.1, v)) ps.toList).bind fun l => both (abuildSlice c H t n l)
  | .load t a => (aval env a).bind fun p => pair (aload c H t p) H
  | .store t a x => (aval env a).bind fun p => (aval env x).bind fun v => done (astore c H t p v)
  | .nilCheck x => (aval env x).bind fun v => match v with
    | .ptr l off => some (.val (.ptr l off), H)
    | .func (.func f) a b => some (.val (.func (.func f) a b), H)
    | .iface t v => some (.val (.iface t v), H)
    | _ => none
  | .binOp op t x y _ => (aval env x).bind fun a => (aval env y).bind fun b => pair (abin c op t a b) H
  | .unOp op _ x => (aval env x).bind fun a => pair (aun op a) H
  | .convert src dst x => (aval env x).bind fun a => pair (aconv c src dst a) H
  | .makeInterface t x => (aval env x).bind fun a => (c.P.underlying t).bind fun d => match d with
    | .interface _ => none
    | _ => some (.val (.iface t a), H)
  | .makeFunc fn first captured => (avals env first.toList).bind fun a => (avals env captured.toList).bind fun b => some (.val (.func fn a b), H)
  | .makeMap t r => match r with
    | none => some (.val (.map (fresh H)), hnew H (.map [] 0))
    | some h => (aval env h).bind fun v => (c.P.underlying t).bind fun d => match v, d with
      | .int _ _, .map _ _ => some (.val (.map (fresh H)), hnew H (.map [] 0))
      | _, _ => none
  | .makeSlice t l m => (aval env l).bind fun a => (aval env m).bind fun b => both (amakeSlice c H t a b)
  | .slice t x lo hi mx => (aval env x).bind fun a => (optval env lo).bind fun l => (optval env hi).bind fun h => (optval env mx).bind fun m => both (aslice c H t a l h m)
  | .fieldAddr s x f => (aval env x).bind fun a => pair (afieldAddr c s a f) H
  | .field t x f => (aval env x).bind fun a => pair (afield c t a f) H
  | .indexAddr t x i => (aval env x).bind fun a => (aval env i).bind fun b => pair (aindexAddr c t a b) H
  | .index t x i => (aval env x).bind fun a => (aval env i).bind fun b => pair (aindex c t a b) H
  | .lookup t m k ok => (aval env m).bind fun a => (aval env k).bind fun b => pair (alookup c H t a b ok) H
  | .mapUpdate t m k v => (aval env m).bind fun a => (aval env k).bind fun b => (aval env v).bind fun x => done (amapUpdate c H t a b x)
  | .insert t m k v => (aval env m).bind fun a => (aval env k).bind fun b => (aval env v).bind fun x => done (amapUpdate c H t a b x)
  | .mapEntry t m k => (aval env m).bind fun a => (aval env k).bind fun b => both (amapEntry c H t a b)
  | .entryStore _ m s v => (aval env m).bind fun a => (aval env s).bind fun b => (aval env v).bind fun x => done (aentryStore H a b x)
  | .typeAssert x _ t ok => (aval env x).bind fun v => (c.P.underlying t).bind fun d => match d, v with
    | .interface _, _ => none
    | _, .iface u w => if u = t then some (.val (if ok then .tuple [w, .bool true] else w), H) else if ok then (zeroAV c.P t).map fun z => (.val (.tuple [z, .bool false]), H) else none
    | _, .niliface => if ok then (zeroAV c.P t).map fun z => (.val (.tuple [z, .bool false]), H) else none
    | _, _ => none
  | .extract x i => (aval env x).bind fun v => match v with | .tuple l => pair (l[i]?) H | _ => none
  | .call cl => acallee c H env cl
  | _ => none

def eput (env : AEnv) (d : Option Tmp) (v : Option AV) : AEnv := match d with
  | some t => match Nat.blt t env.size with
    | true => ⟨env.size, Tr.set v 20 t env.tr⟩
    | false => env
  | none => env

def argsTr : List AV → Nat → Tr → Tr
  | [], _, x => x
  | v :: r, i, x => argsTr r (i + 1) (Tr.set (some v) 20 i x)

/-- a function's temporaries at its start -/
def env0 (n : Nat) (args : List AV) : AEnv := ⟨args.length + (n - args.length), argsTr args 0 .leaf⟩

/-- what the functions called do -/
abbrev Callee := FuncId → List AV → AHeap → Option (AV × AHeap)

/-- what a temporary holds that has not been set -/
abbrev AV.undef : AV := .tuple []

def ayield (ops : List Oper) (env : AEnv) (j : Nat) : Option (Option Bool) :=
  match (ops[j]?).bind (·.dst) with
  | some t => match eget env t with
    | some (.bool b) => some (some b)
    | some (.tuple []) => some none
    | _ => none
  | none => none

/-- is the operation to be run? none: it can't be told -/
def awanted (ops : List Oper) (env : AEnv) (o : Oper) : Option Bool :=
  match o.guard with
  | none => some true
  | some (j, want) => (ayield ops env j).map (· == some want)

def astep (c : Ctx) (call : Callee) (ops : List Oper) (o : Oper) (env : AEnv) (H : AHeap) : Option (AEnv × AHeap) :=
  (awanted ops env o).bind fun w => if w then
    (aop c env o.op H).bind fun (r, H') => match r with
    | .val v => some (eput env o.dst (some v), H')
    | .skip => some (eput env o.dst (some .undef), H')
    | .call f args => (call f args H').bind fun (v, H'') => some (eput env o.dst (some v), H'')
  else some (eput env o.dst (some .undef), H)

def asteps (c : Ctx) (call : Callee) (ops : List Oper) : List Oper → AEnv → AHeap → Option (AEnv × AHeap)
  | [], env, H => some (env, H)
  | o :: r, env, H => (astep c call ops o env H).bind fun (env', H') => asteps c call ops r env' H'

inductive AExit where
  | normal
  | exit (id : Nat)
  | ret

abbrev ASt := AExit × AEnv × AHeap

def loopN (body : AEnv → AHeap → Option ASt) : Nat → AEnv → AHeap → Option ASt
  | 0, _, _ => none
  | n + 1, env, H => (body env H).bind fun (e, env', H') => match e with
    | .normal => loopN body n env' H'
    | e => some (e, env', H')

/-- a region that draws its order: what it does, where every order does the same -/
abbrev DrawOk := Ctx → Callee → List Oper → AEnv → AHeap → Option (AEnv × AHeap)

def acode (c : Ctx) (dr : DrawOk) (call : Callee) (lf : Nat) : Code → AEnv → AHeap → Option ASt
  | .skip, env, H => some (.normal, env, H)
  | .region _ ops draw, env, H =>
    (if draw then dr c call ops.toList env H else asteps c call ops.toList ops.toList env H).bind fun (env', H') => some (.normal, env', H')
  | .seq a b, env, H => (acode c dr call lf a env H).bind fun (e, env', H') => match e with
    | .normal => acode c dr call lf b env' H'
    | e => some (e, env', H')
  | .cond q a b, env, H => (aval env q).bind fun v => match v with
    | .bool t => if t then acode c dr call lf a env H else acode c dr call lf b env H
    | _ => none
  | .block id b, env, H => (acode c dr call lf b env H).bind fun (e, env', H') => match e with
    | .exit j => if j = id then some (.normal, env', H') else some (.exit j, env', H')
    | e => some (e, env', H')
  | .loop b, env, H => loopN (acode c dr call lf b) lf env H
  | .exit id, env, H => some (.exit id, env, H)
  | .label _, env, H => some (.normal, env, H)
  | .ret, env, H => some (.ret, env, H)
  | _, _, _ => none

def aresult (c : Ctx) (env : AEnv) (H : AHeap) : ResultVar → Option AV
  | .tmp t => eget env t
  | .cell a t => match eget env a with | some p => aload c H t p | _ => none

def aresults (c : Ctx) (fn : Func) (env : AEnv) (H : AHeap) : Option AV :=
  (mapO (aresult c env H) fn.results.toList).map fun vs => match vs with | [v] => v | vs => .tuple vs

/-- functions that are known otherwise -/
abbrev Prims := FuncId → Option (List AV → AHeap → Option (AV × AHeap))

def acall (c : Ctx) (dr : DrawOk) (gc : Callee → Callee) (pr : Prims) : Nat → Callee
  | 0, _, _, _ => none
  | k + 1, f, args, H =>
    match (pr f).bind fun g => g args H with
    | some r => some r
    | none => (c.P.funcs[f]?).bind fun fn => fn.body.bind fun b =>
      (acode c dr (gc (acall c dr gc pr k)) k b (env0 fn.ntmps args) H).bind fun (e, env, H') => match e with
      | .exit _ => none
      | _ => (aresults c fn env H').map fun v => (v, H')

end Go.AM

/-
  WHAT THE ABSTRACT MACHINE's heap says of the model's world (own work): where each abstract block lies ('Pl'), what a value is ('VR'), what a block holds ('ObjR'), the whole ('Rel'), and how two states lie one behind another ('Post').
-/
namespace Go.AM
open Go.RowKit

structure Place where
  b : Nat
  off : Nat
  cap : Nat

abbrev Pl := Loc → Option Place

mutual
def VR (ρ : Pl) : AV → Value → Prop
  | .bool b, x => x = .bool b
  | .int k n, x => x = .int k n
  | .str s, x => x = .string ⟨s.toArray⟩
  | .nilptr, x => x = .pointer none
  | .ptr l off, x => ∃ p, ρ l = some p ∧ x = .pointer (some ⟨p.b, p.off + off, none⟩)
  | .nilslice, x => x = .slice none 0 0
  | .slice l esz start len, x => ∃ p, ρ l = some p ∧ start + len ≤ p.cap ∧ x = .slice (some ⟨p.b, p.off + start * esz, none⟩) len (p.cap - start)
  | .odd a, x => x = .slice (some a) 0 0
  | .nilmap, x => x = .map none
  | .map l, x => ∃ p, ρ l = some p ∧ x = .map (some p.b)
  | .nilfunc, x => x = .nilFunc
  | .func fn a b, x => ∃ xs ys, VRs ρ a xs ∧ VRs ρ b ys ∧ x = .func fn xs.toArray ys.toArray
  | .niliface, x => x = .nilIface
  | .iface t v, x => ∃ y, VR ρ v y ∧ x = .iface t y
  | .agg l, x => ∃ xs, VRs ρ l xs ∧ x = .agg xs.toArray
  | .tuple l, x => ∃ xs, VRs ρ l xs ∧ x = .tuple xs.toArray
def VRs (ρ : Pl) : List AV → List Value → Prop
  | [], xs => xs = []
  | v :: vs, xs => ∃ y ys, xs = y :: ys ∧ VR ρ v y ∧ VRs ρ vs ys
end

def Ext (ρ ρ' : Pl) : Prop := ∀ l p, ρ l = some p → ρ' l = some p
theorem Ext.refl (ρ : Pl) : Ext ρ ρ := fun _ _ h => h
theorem Ext.trans {a b c : Pl} (h : Ext a b) (k : Ext b c) : Ext a c := fun l p e => k l p (h l p e)

mutual
theorem VR.mono {ρ ρ' : Pl} (h : Ext ρ ρ') : ∀ {v : AV} {x : Value}, VR ρ v x → VR ρ' v x
  | .bool _, _, e => e
  | .int _ _, _, e => e
  | .str _, _, e => e
  | .nilptr, _, e => e
  | .ptr _ _, _, ⟨p, e, hx⟩ => ⟨p, h _ _ e, hx⟩
  | .nilslice, _, e => e
  | .slice _ _ _ _, _, ⟨p, e, hx⟩ => ⟨p, h _ _ e, hx⟩
  | .odd _, _, e => e
  | .nilmap, _, e => e
  | .map _, _, ⟨p, e, hx⟩ => ⟨p, h _ _ e, hx⟩
  | .nilfunc, _, e => e
  | .func _ _ _, _, ⟨xs, ys, e, f, hx⟩ => ⟨xs, ys, VRs.mono h e, VRs.mono h f, hx⟩
  | .niliface, _, e => e
  | .iface _ _, _, ⟨y, e, hx⟩ => ⟨y, VR.mono h e, hx⟩
  | .agg _, _, ⟨xs, e, hx⟩ => ⟨xs, VRs.mono h e, hx⟩
  | .tuple _, _, ⟨xs, e, hx⟩ => ⟨xs, VRs.mono h e, hx⟩
theorem VRs.mono {ρ ρ' : Pl} (h : Ext ρ ρ') : ∀ {v : List AV} {x : List Value}, VRs ρ v x → VRs ρ' v x
  | [], _, e => e
  | _ :: _, _, ⟨y, ys, hx, e, f⟩ => ⟨y, ys, hx, VR.mono h e, VRs.mono h f⟩
end

theorem VRs.length {ρ : Pl} : ∀ {vs : List AV} {xs : List Value}, VRs ρ vs xs → xs.length = vs.length
  | [], _, h => by subst h; rfl
  | _ :: _, _, ⟨_, _, hx, _, f⟩ => by subst hx; simp [VRs.length f]

theorem VRs.get {ρ : Pl} : ∀ {vs : List AV} {xs : List Value}, VRs ρ vs xs → ∀ {j : Nat} {v : AV}, vs[j]? = some v → ∃ x, xs[j]? = some x ∧ VR ρ v x
  | [], _, _, j, v, hj => by simp at hj
  | _ :: _, _, ⟨y, ys, hx, e, f⟩, 0, v, hj => by simp at hj; subst hj hx; exact ⟨y, rfl, e⟩
  | _ :: _, _, ⟨y, ys, hx, e, f⟩, j + 1, v, hj => by subst hx; exact VRs.get f (by simpa using hj)

theorem VRs.of_get {ρ : Pl} : ∀ {vs : List AV} {xs : List Value}, xs.length = vs.length → (∀ (j : Nat) (v : AV), vs[j]? = some v → ∃ x, xs[j]? = some x ∧ VR ρ v x) → VRs ρ vs xs
  | [], xs, hl, _ => by simpa [VRs] using hl
  | v :: vs, [], hl, _ => by simp at hl
  | v :: vs, x :: xs, hl, h => by
    obtain ⟨x0, hx0, hv⟩ := h 0 v rfl
    simp at hx0; subst hx0
    exact ⟨x, xs, rfl, hv, VRs.of_get (by simpa using hl) (fun j u hj => by simpa using h (j + 1) u (by simpa using hj))⟩

theorem VRs.append {ρ : Pl} : ∀ {a b : List AV} {x y : List Value}, VRs ρ a x → VRs ρ b y → VRs ρ (a ++ b) (x ++ y)
  | [], _, _, _, h, k => by simp [VRs] at h; subst h; simpa using k
  | _ :: _, _, _, _, ⟨y, ys, hx, e, f⟩, k => by subst hx; exact ⟨y, ys ++ _, rfl, e, VRs.append f k⟩

theorem VRs.nil_iff {ρ : Pl} {x : List Value} : VRs ρ [] x ↔ x = [] := Iff.rfl

theorem VRs.take {ρ : Pl} {a : List AV} {x : List Value} (h : VRs ρ a x) (n : Nat) : VRs ρ (a.take n) (x.take n) := by
  refine VRs.of_get (by simp [h.length]) fun j v hj => ?_
  rw [List.getElem?_take] at hj ⊢
  split at hj
  · rename_i hlt; rw [if_pos hlt]; exact h.get hj
  · simp at hj

theorem VRs.drop {ρ : Pl} {a : List AV} {x : List Value} (h : VRs ρ a x) (n : Nat) : VRs ρ (a.drop n) (x.drop n) := by
  refine VRs.of_get (by simp [h.length]) fun j v hj => ?_
  rw [List.getElem?_drop] at hj ⊢
  exact h.get hj

theorem VR.one {ρ : Pl} {v : AV} {x : Value} (h : VR ρ v x) : x.oneCell' = v.one := by
  cases v <;> simp only [VR] at h
  case bool => subst h; rfl
  case int => subst h; rfl
  case str => subst h; rfl
  case nilptr => subst h; rfl
  case ptr => obtain ⟨_, _, rfl⟩ := h; rfl
  case nilslice => subst h; rfl
  case slice => obtain ⟨_, _, _, rfl⟩ := h; rfl
  case odd => subst h; rfl
  case nilmap => subst h; rfl
  case map => obtain ⟨_, _, rfl⟩ := h; rfl
  case nilfunc => subst h; rfl
  case func => obtain ⟨_, _, _, _, rfl⟩ := h; rfl
  case niliface => subst h; rfl
  case iface => obtain ⟨_, _, rfl⟩ := h; rfl
  case agg => obtain ⟨_, _, rfl⟩ := h; rfl
  case tuple => obtain ⟨_, _, rfl⟩ := h; rfl

theorem VR.cells {ρ : Pl} {v : AV} {x : Value} (h : VR ρ v x) : VRs ρ v.cells x.cells.toList := by
  have one : ∀ {v : AV} {x : Value}, VR ρ v x → v.cells = [v] → x.cells = #[x] → VRs ρ v.cells x.cells.toList := fun h e f => by
    rw [e, f]; exact ⟨_, [], rfl, h, rfl⟩
  have h0 := h
  cases v <;> simp only [VR] at h
  case agg => obtain ⟨xs, hx, rfl⟩ := h; simpa [AV.cells, Value.cells] using hx
  case bool => subst h; exact one h0 rfl rfl
  case int => subst h; exact one h0 rfl rfl
  case str => subst h; exact one h0 rfl rfl
  case nilptr => subst h; exact one h0 rfl rfl
  case ptr => obtain ⟨_, _, rfl⟩ := h; exact one h0 rfl rfl
  case nilslice => subst h; exact one h0 rfl rfl
  case slice => obtain ⟨_, _, _, rfl⟩ := h; exact one h0 rfl rfl
  case odd => subst h; exact one h0 rfl rfl
  case nilmap => subst h; exact one h0 rfl rfl
  case map => obtain ⟨_, _, rfl⟩ := h; exact one h0 rfl rfl
  case nilfunc => subst h; exact one h0 rfl rfl
  case func => obtain ⟨_, _, _, _, rfl⟩ := h; exact one h0 rfl rfl
  case niliface => subst h; exact one h0 rfl rfl
  case iface => obtain ⟨_, _, rfl⟩ := h; exact one h0 rfl rfl
  case tuple => obtain ⟨_, _, rfl⟩ := h; exact one h0 rfl rfl

/-- cells that stand in a row from a place on -/
def CellsR (ρ : Pl) (w : World) (b off : Nat) (cells : List AV) : Prop :=
  ∀ j v, cells[j]? = some v → ∃ x, w.cell? ⟨b, off + j, none⟩ = some x ∧ VR ρ v x ∧ v.one = true

inductive EntR (ρ : Pl) : List (AV × AV × Nat) → List MapEntry → Prop
  | nil : EntR ρ [] []
  | cons {k v : AV} {n : Nat} {es : List (AV × AV × Nat)} {x y : Value} {xs : List MapEntry} (hk : VR ρ k x) (hv : VR ρ v y) (h : EntR ρ es xs) : EntR ρ ((k, v, n) :: es) (⟨x, y, n⟩ :: xs)

theorem EntR.mono {ρ ρ' : Pl} (h : Ext ρ ρ') {es : List (AV × AV × Nat)} {xs : List MapEntry} (k : EntR ρ es xs) : EntR ρ' es xs := by
  induction k with
  | nil => exact .nil
  | cons hk hv _ ih => exact .cons (hk.mono h) (hv.mono h) ih

theorem EntR.length {ρ : Pl} {es : List (AV × AV × Nat)} {xs : List MapEntry} (k : EntR ρ es xs) : xs.length = es.length := by
  induction k with
  | nil => rfl
  | cons _ _ _ ih => simp [ih]

def AObj.solid : AObj → Bool
  | .empty _ => false
  | _ => true

/-- what a block holds, in the heap's own words -/
def ObjR (ρ : Pl) (p : Place) (heap : Array Obj) : AObj → Prop
  | .row ty esz cells => ∃ cs : Array Value, heap[p.b]? = some (.cells cs ty (0, 0)) ∧ p.off + p.cap * esz ≤ cs.size ∧ cells.length ≤ p.cap * esz ∧
      ∀ j v, cells[j]? = some v → ∃ x, cs[p.off + j]? = some x ∧ VR ρ v x ∧ v.one = true
  | .empty c0 => c0 = true → p.cap = 0
  | .map es clock => ∃ ents : Array MapEntry, heap[p.b]? = some (.map ents clock) ∧ EntR ρ es ents.toList
  | .siter s pos => heap[p.b]? = some (.stringIter ⟨s.toArray⟩ pos) ∧ p.off = 0
  | .miter _ _ _ _ => False

theorem ObjR.mono {ρ ρ' : Pl} (h : Ext ρ ρ') {p : Place} {hp hp' : Array Obj} {o : AObj} (hb : o.solid = true → hp'[p.b]? = hp[p.b]?) (k : ObjR ρ p hp o) : ObjR ρ' p hp' o := by
  cases o with
  | row ty esz cells =>
    obtain ⟨cs, h1, h2, h3, h4⟩ := k
    exact ⟨cs, (hb rfl).trans h1, h2, h3, fun j v hj => by obtain ⟨x, hx, hv, ho⟩ := h4 j v hj; exact ⟨x, hx, hv.mono h, ho⟩⟩
  | empty c0 => exact k
  | map es clock => obtain ⟨ents, h1, h2⟩ := k; exact ⟨ents, (hb rfl).trans h1, h2.mono h⟩
  | siter s pos => exact ⟨(hb rfl).trans k.1, k.2⟩
  | miter => exact k.elim

/-- The whole: the abstract heap H lies in the world w as ρ tells; below 'base' the world is as w0 is. -/
structure Rel (c : Ctx) (base : Nat) (w0 : World) (ρ : Pl) (H : AHeap) (w : World) : Prop where
  below : Below base w0 w
  size : base ≤ w.heap.size
  own : ∀ i o, hat H i = some o → ∃ p, ρ (.own i) = some p ∧ ObjR ρ p w.heap o ∧ (o.solid = true → base ≤ p.b)
  inj : ∀ i j o o' p q, hat H i = some o → hat H j = some o' → o.solid = true → o'.solid = true → ρ (.own i) = some p → ρ (.own j) = some q → p.b = q.b → i = j
  ext : ∀ path cells, c.G path = some cells → ∃ p, ρ (.ext path) = some p ∧ p.b < base ∧ ∀ j v, cells[j]? = some v → ∃ x, w.cell? ⟨p.b, p.off + j, none⟩ = some x ∧ VR ρ v x ∧ v.one = true
  glob : ∀ g, ∃ n, ρ (.ext [0, g]) = some ⟨g, 0, n⟩

/-- One state behind another one. -/
structure Post (c : Ctx) (base : Nat) (w0 : World) (ρ : Pl) (H : AHeap) (w : World) (ρ' : Pl) (H' : AHeap) (w' : World) : Prop where
  rel : Rel c base w0 ρ' H' w'
  ext : Ext ρ ρ'
  new : ∀ l p, ρ' l = some p → ρ l = some p ∨ ∃ i, l = .own i ∧ H.length ≤ i ∧ i < H'.length
  len : H.length ≤ H'.length
  size : w.heap.size ≤ w'.heap.size
  frame : ∀ b, b < w.heap.size → (∀ i o p, hat H i = some o → o.solid = true → ρ (.own i) = some p → p.b ≠ b) → w'.heap[b]? = w.heap[b]?
  place : ∀ i o p, hat H' i = some o → o.solid = true → ρ' (.own i) = some p → w.heap.size ≤ p.b ∨ ∃ j o' q, hat H j = some o' ∧ o'.solid = true ∧ ρ (.own j) = some q ∧ q.b = p.b

theorem Post.refl {c : Ctx} {base : Nat} {w0 w : World} {ρ : Pl} {H : AHeap} (h : Rel c base w0 ρ H w) : Post c base w0 ρ H w ρ H w :=
  ⟨h, Ext.refl _, fun _ _ e => .inl e, Nat.le_refl _, Nat.le_refl _, fun _ _ _ => rfl, fun i o p e s r => .inr ⟨i, o, p, e, s, r, rfl⟩⟩

theorem Post.trans {c : Ctx} {base : Nat} {w0 w1 w2 w3 : World} {ρ1 ρ2 ρ3 : Pl} {H1 H2 H3 : AHeap} (h : Post c base w0 ρ1 H1 w1 ρ2 H2 w2) (k : Post c base w0 ρ2 H2 w2 ρ3 H3 w3) : Post c base w0 ρ1 H1 w1 ρ3 H3 w3 where
  rel := k.rel
  ext := h.ext.trans k.ext
  new := fun l p e => by
    rcases k.new l p e with e | ⟨i, rfl, a, b⟩
    · rcases h.new l p e with e | ⟨i, rfl, a, b⟩
      · exact .inl e
      · exact .inr ⟨i, rfl, a, Nat.lt_of_lt_of_le b k.len⟩
    · exact .inr ⟨i, rfl, Nat.le_trans h.len a, b⟩
  len := Nat.le_trans h.len k.len
  size := Nat.le_trans h.size k.size
  frame := fun b hb hn => by
    rw [k.frame b (Nat.lt_of_lt_of_le hb h.size) fun i o p e s r hpb => ?_, h.frame b hb hn]
    rcases h.place i o p e s r with hge | ⟨j, o', q, e', s', r', hq⟩
    · omega
    · exact hn j o' q e' s' r' (hq.trans hpb)
  place := fun i o p e s r => by
    rcases k.place i o p e s r with hge | ⟨j, o', q, e', s', r', hq⟩
    · exact .inl (Nat.le_trans h.size hge)
    · rcases h.place j o' q e' s' r' with hge | ⟨j2, o2, q2, e2, s2, r2, hq2⟩
      · exact .inl (hq ▸ hge)
      · exact .inr ⟨j2, o2, q2, e2, s2, r2, hq2.trans hq⟩

/-! the abstract heap's own words -/

theorem hat_lt {H : AHeap} {i : Nat} {o : AObj} (h : hat H i = some o) : i < H.length := by
  unfold hat at h
  rcases Nat.lt_or_ge i H.length with h' | h'
  · exact h'
  · rw [List.getElem?_eq_none h'] at h; simp at h

theorem hat_append_lt {H K : AHeap} {i : Nat} (h : i < H.length) : hat (H ++ K) i = hat H i := by
  unfold hat; rw [List.getElem?_append_left h]

theorem hat_new (H : AHeap) (o : AObj) (i : Nat) : hat (hnew H o) i = if i = H.length then some o else hat H i := by
  unfold hnew
  by_cases h : i = H.length
  · subst h; simp [hat]
  · rw [if_neg h]
    rcases Nat.lt_or_ge i H.length with h' | h'
    · exact hat_append_lt h'
    · have : H.length + 1 ≤ i := by omega
      unfold hat
      rw [List.getElem?_eq_none (by simpa using this), List.getElem?_eq_none h']

theorem hat_set (H : AHeap) (i : Nat) (o : Option AObj) (j : Nat) (hi : i < H.length) : hat (H.set i o) j = if j = i then o else hat H j := by
  unfold hat
  by_cases h : j = i
  · subst h; simp [hi]
  · rw [if_neg h, List.getElem?_set_ne (by omega)]

theorem len_new (H : AHeap) (o : AObj) : (hnew H o).length = H.length + 1 := by simp [hnew]

def upd (ρ : Pl) (l : Loc) (p : Place) : Pl := fun m => if m = l then some p else ρ m
theorem upd_same (ρ : Pl) (l : Loc) (p : Place) : upd ρ l p l = some p := by simp [upd]
theorem upd_ne (ρ : Pl) {l m : Loc} (p : Place) (h : m ≠ l) : upd ρ l p m = ρ m := by simp [upd, h]
theorem upd_ext {ρ : Pl} {l : Loc} {p : Place} (h : ρ l = none) : Ext ρ (upd ρ l p) := fun m q e => by
  have : m ≠ l := fun hm => by subst hm; rw [h] at e; cases e
  rw [upd_ne ρ p this]; exact e

/-- A NEW BLOCK. -/
theorem post_new {c : Ctx} {base : Nat} {w0 w : World} {ρ : Pl} {H : AHeap} (h : Rel c base w0 ρ H w) (hf : ρ (.own H.length) = none) (o : AObj) (p : Place) (b : Obj) (hpb : p.b = w.heap.size)
    (ho : ObjR (upd ρ (.own H.length) p) p (w.alloc b).heap o) : Post c base w0 ρ H w (upd ρ (.own H.length) p) (hnew H o) (w.alloc b) := by
  have he : Ext ρ (upd ρ (.own H.length) p) := upd_ext hf
  have hold : ∀ k, k < w.heap.size → (w.alloc b).heap[k]? = w.heap[k]? := fun k hk => Below.heap_alloc w b k hk
  have hlt : ∀ {i o p}, hat H i = some o → ρ (.own i) = some p → o.solid = true → p.b < w.heap.size := by
    intro i o p e r s
    obtain ⟨q, hq, ho, _⟩ := h.own i o e
    rw [r] at hq; cases hq
    have hsome : ∃ x, w.heap[p.b]? = some x := by
      cases o with
      | row => obtain ⟨cs, h1, _⟩ := ho; exact ⟨_, h1⟩
      | empty => simp [AObj.solid] at s
      | map => obtain ⟨_, h1, _⟩ := ho; exact ⟨_, h1⟩
      | siter => exact ⟨_, ho.1⟩
      | miter => exact ho.elim
    obtain ⟨x, hx⟩ := hsome
    exact (Array.getElem?_eq_some_iff.1 hx).1
  refine ⟨⟨h.below.alloc h.size b, by simp; exact Nat.le_succ_of_le h.size, ?_, ?_, ?_, ?_⟩, he, ?_, by simp [hnew], by simp, fun k hk _ => hold k hk, ?_⟩
  · intro i o' e
    rw [hat_new] at e
    split at e
    · rename_i hi; subst hi; cases e
      exact ⟨p, upd_same _ _ _, ho, fun _ => hpb ▸ h.size⟩
    · obtain ⟨q, hq, ho', hb⟩ := h.own i o' e
      exact ⟨q, he _ _ hq, ho'.mono he (fun s => hold _ (hlt e hq s)), hb⟩
  · intro i j o1 o2 q1 q2 e1 e2 s1 s2 r1 r2 hq
    rw [hat_new] at e1 e2
    split at e1 <;> split at e2
    · omega
    · rename_i hi hj; subst hi
      rw [upd_same] at r1; cases r1
      rw [upd_ne ρ p (by simpa using hj)] at r2
      have := hlt e2 r2 s2; omega
    · rename_i hi hj; subst hj
      rw [upd_same] at r2; cases r2
      rw [upd_ne ρ p (by simpa using hi)] at r1
      have := hlt e1 r1 s1; omega
    · rename_i hi hj
      rw [upd_ne ρ p (by simpa using hi)] at r1
      rw [upd_ne ρ p (by simpa using hj)] at r2
      exact h.inj i j o1 o2 q1 q2 e1 e2 s1 s2 r1 r2 hq
  · intro path cells hG
    obtain ⟨q, hq, hb, hc⟩ := h.ext path cells hG
    refine ⟨q, he _ _ hq, hb, fun j v hj => ?_⟩
    obtain ⟨x, hx, hv, h1⟩ := hc j v hj
    exact ⟨x, by rw [World.cell?_alloc_lt w b _ (World.block_lt_of_cell? w _ hx)]; exact hx, hv.mono he, h1⟩
  · intro g; obtain ⟨n, hn⟩ := h.glob g; exact ⟨n, he _ _ hn⟩
  · intro l q e
    by_cases hl : l = .own H.length
    · exact .inr ⟨H.length, hl, Nat.le_refl _, by simp [hnew]⟩
    · rw [upd_ne ρ p hl] at e; exact .inl e
  · intro i o' q e s r
    rw [hat_new] at e
    split at e
    · rename_i hi; subst hi; rw [upd_same] at r; cases r; exact .inl (by omega)
    · rename_i hi
      rw [upd_ne ρ p (by simpa using hi)] at r
      exact .inr ⟨i, o', q, e, s, r, rfl⟩

theorem rel_lt {c : Ctx} {base : Nat} {w0 w : World} {ρ : Pl} {H : AHeap} (h : Rel c base w0 ρ H w) {i : Nat} {o : AObj} {p : Place} (e : hat H i = some o) (r : ρ (.own i) = some p) (s : o.solid = true) : p.b < w.heap.size := by
  obtain ⟨q, hq, ho, _⟩ := h.own i o e
  rw [r] at hq; cases hq
  have hsome : ∃ x, w.heap[p.b]? = some x := by
    cases o with
    | row => obtain ⟨cs, h1, _⟩ := ho; exact ⟨_, h1⟩
    | empty => simp [AObj.solid] at s
    | map => obtain ⟨_, h1, _⟩ := ho; exact ⟨_, h1⟩
    | siter => exact ⟨_, ho.1⟩
    | miter => exact ho.elim
  obtain ⟨x, hx⟩ := hsome
  exact (Array.getElem?_eq_some_iff.1 hx).1

/-- A BLOCK WRITTEN: the object at i becomes o' (of the same place), the model's block b. -/
theorem post_set {c : Ctx} {base : Nat} {w0 w w' : World} {ρ : Pl} {H : AHeap} (h : Rel c base w0 ρ H w) {i : Nat} {o o' : AObj} {p : Place} (e : hat H i = some o) (s : o.solid = true) (r : ρ (.own i) = some p)
    (hos : w'.os = w.os) (htp : w'.tape = w.tape) (hout : w'.output = w.output) (hsz : w'.heap.size = w.heap.size) (hbl : ∀ k, k ≠ p.b → w'.heap[k]? = w.heap[k]?) (ho' : ObjR ρ p w'.heap o') :
    Post c base w0 ρ H w ρ (H.set i (some o')) w' := by
  have hi := hat_lt e
  have hbase : base ≤ p.b := by
    obtain ⟨q, hq, _, hb⟩ := h.own i o e
    rw [r] at hq; cases hq; exact hb s
  refine ⟨⟨⟨hos.trans h.below.os, htp.trans h.below.tape, hout.trans h.below.output, by rw [hsz]; exact h.below.size, fun k hk => (hbl k (by omega)).trans (h.below.block k hk)⟩, by rw [hsz]; exact h.size, ?_, ?_, ?_, h.glob⟩, Ext.refl _, fun _ _ e => .inl e, by simp, by omega, ?_, ?_⟩
  · intro j o2 e2
    rw [hat_set H i _ j hi] at e2
    split at e2
    · rename_i hj; subst hj; cases e2; exact ⟨p, r, ho', fun _ => hbase⟩
    · rename_i hj
      obtain ⟨q, hq, ho, hb⟩ := h.own j o2 e2
      refine ⟨q, hq, ho.mono (Ext.refl _) (fun s2 => hbl _ fun hqp => ?_), hb⟩
      exact hj (h.inj j i o2 o q p e2 e s2 s hq r hqp)
  · intro j k o1 o2 q1 q2 e1 e2 s1 s2 r1 r2 hq
    rw [hat_set H i _ _ hi] at e1 e2
    split at e1 <;> split at e2
    · omega
    · rename_i hj hk; subst hj; exact h.inj j k o o2 q1 q2 e e2 s s2 r1 r2 hq
    · rename_i hj hk; subst hk; exact h.inj j k o1 o q1 q2 e1 e s1 s r1 r2 hq
    · exact h.inj j k o1 o2 q1 q2 e1 e2 s1 s2 r1 r2 hq
  · intro path cells hG
    obtain ⟨q, hq, hb, hc⟩ := h.ext path cells hG
    refine ⟨q, hq, hb, fun j v hj => ?_⟩
    obtain ⟨x, hx, hv, h1⟩ := hc j v hj
    refine ⟨x, ?_, hv, h1⟩
    rw [World.cell?_of_block (w := w) (hbl q.b (by omega))]; exact hx
  · intro b hb hn
    exact hbl b fun hbp => hn i o p e s r hbp.symm
  · intro j o2 q e2 s2 r2
    rw [hat_set H i _ j hi] at e2
    split at e2
    · rename_i hj; subst hj; exact .inr ⟨j, o, q, e, s, r2, rfl⟩
    · exact .inr ⟨j, o2, q, e2, s2, r2, rfl⟩

end Go.AM

/-
  THE OPERATIONS, first part (own work): what the abstract machine tells of an operation that writes nothing is what the model's operation gives.
-/
namespace Go.AM
open Go.RowKit
set_option linter.unusedSimpArgs false

variable {c : Ctx} {base : Nat} {w0 w : World} {ρ : Pl} {H : AHeap}

theorem addr_add (b o n : Nat) : (⟨b, o, none⟩ : Addr).add n = ⟨b, o + n, none⟩ := by unfold Addr.add; split <;> simp_all

theorem scAV_sound {x : Value} {v : AV} (h : scAV x = some v) : VR ρ v x := by
  unfold scAV at h
  split at h <;> simp at h <;> subst h <;> simp [VR]

theorem mapO_scAV {l : List Value} {vs : List AV} (h : mapO scAV l = some vs) : VRs ρ vs l := by
  induction l generalizing vs with
  | nil => simp [mapO] at h; subst h; simp [VRs]
  | cons x r ih =>
    simp only [mapO, Option.bind_eq_some_iff, Option.some.injEq] at h
    obtain ⟨y, hy, z, hz, rfl⟩ := h
    exact ⟨x, r, rfl, scAV_sound hy, ih hz⟩

theorem constAV_sound {x : Value} {v : AV} (h : constAV x = some v) : VR ρ v x := by
  unfold constAV at h
  split at h
  · rename_i cs
    simp only [Option.map_eq_some_iff] at h
    obtain ⟨l, hl, rfl⟩ := h
    exact ⟨cs.toList, mapO_scAV hl, by simp⟩
  · rename_i cs
    split at h
    · cases h; exact ⟨[], rfl, by simp; simpa using ‹cs.size = 0›⟩
    · cases h
  · exact scAV_sound h

def EnvR (ρ : Pl) (env : AEnv) (tmps : Array Value) : Prop := env.size = tmps.size ∧ ∀ (t : Nat) (v : AV), eget env t = some v → ∃ x, tmps[t]? = some x ∧ VR ρ v x

theorem EnvR.mono {ρ' : Pl} {env : AEnv} {tmps : Array Value} (h : Ext ρ ρ') (k : EnvR ρ env tmps) : EnvR ρ' env tmps :=
  ⟨k.1, fun t v e => by obtain ⟨x, hx, hv⟩ := k.2 t v e; exact ⟨x, hx, hv.mono h⟩⟩

theorem aval_sound (h : Rel c base w0 ρ H w) {env : AEnv} {a : Act} (he : EnvR ρ env a.tmps) {x : Operand} {v : AV} (e : aval env x = some v) : VR ρ v (a.eval x) := by
  cases x with
  | tmp t =>
    simp only [aval] at e
    obtain ⟨y, hy, hv⟩ := he.2 t v e
    simpa [Act.eval, Array.getD, hy] using (by
      have : (a.tmps.getD t undef) = y := by simp [Array.getD_eq_getD_getElem?, hy]
      rw [← this] at hv; simpa [Act.eval] using hv : VR ρ v (a.eval (.tmp t)))
  | const y => exact constAV_sound e
  | global g =>
    simp only [aval, Option.some.injEq] at e; subst e
    obtain ⟨n, hn⟩ := h.glob g
    exact ⟨_, hn, by simp [Act.eval]⟩
  | func f =>
    simp only [aval, Option.some.injEq] at e; subst e
    exact ⟨[], [], rfl, rfl, by simp [Act.eval]⟩

theorem avals_sound (h : Rel c base w0 ρ H w) {env : AEnv} {a : Act} (he : EnvR ρ env a.tmps) {xs : List Operand} {vs : List AV} (e : avals env xs = some vs) : VRs ρ vs (xs.map a.eval) := by
  unfold avals at e
  induction xs generalizing vs with
  | nil => simp [mapO] at e; subst e; simp [VRs]
  | cons x r ih =>
    simp only [mapO, Option.bind_eq_some_iff, Option.some.injEq] at e
    obtain ⟨y, hy, z, hz, rfl⟩ := e
    exact ⟨_, _, rfl, aval_sound h he hy, ih hz⟩

/-- the cells of a row -/
theorem rowOf_sound (h : Rel c base w0 ρ H w) {l : Loc} {cs : List AV} (e : rowOf c H l = some cs) {p : Place} (hp : ρ l = some p) (j : Nat) (v : AV) (hj : cs[j]? = some v) :
    ∃ x, w.cell? ⟨p.b, p.off + j, none⟩ = some x ∧ VR ρ v x ∧ v.one = true := by
  cases l with
  | own i =>
    simp only [rowOf] at e
    split at e
    · rename_i ty esz cells ho
      cases e
      obtain ⟨q, hq, ⟨ds, h1, h2, h3, h4⟩, _⟩ := h.own i _ ho
      rw [hp] at hq; cases hq
      obtain ⟨x, hx, hv, h1'⟩ := h4 j v hj
      exact ⟨x, by simp [World.cell?, h1, hx], hv, h1'⟩
    · cases e
  | ext path =>
    obtain ⟨q, hq, _, hc⟩ := h.ext path cs e
    rw [hp] at hq; cases hq
    exact hc j v hj

theorem rd_sound (h : Rel c base w0 ρ H w) {l : Loc} {off n : Nat} {vs : List AV} (e : rd c H l off n = some vs) {p : Place} (hp : ρ l = some p) :
    ∃ xs : List Value, xs.length = n ∧ VRs ρ vs xs ∧ (∀ (j : Nat) (y : Value), xs[j]? = some y → w.cell? ((⟨p.b, p.off + off, none⟩ : Addr).add j) = some y) ∧ vs.all AV.one = true := by
  simp only [rd, Option.bind_eq_some_iff] at e
  obtain ⟨cs, hcs, e⟩ := e
  split at e
  · rename_i hle
    cases e
    have hf : ∀ j, j < n → ∃ x, w.cell? ⟨p.b, p.off + (off + j), none⟩ = some x ∧ ∀ v, cs[off + j]? = some v → VR ρ v x ∧ v.one = true := by
      intro j hj
      have hlt : off + j < cs.length := by omega
      obtain ⟨x, hx, hv, h1⟩ := rowOf_sound h hcs hp (off + j) cs[off + j] (List.getElem?_eq_getElem hlt)
      exact ⟨x, hx, fun v hv' => by rw [List.getElem?_eq_getElem hlt] at hv'; cases hv'; exact ⟨hv, h1⟩⟩
    refine ⟨(List.range n).map fun j => (w.cell? ⟨p.b, p.off + (off + j), none⟩).getD undef, by simp, VRs.of_get (by simp; omega) fun j v hj => ?_, fun j y hy => ?_, ?_⟩
    · rw [List.getElem?_take] at hj
      split at hj
      · rename_i hjn
        obtain ⟨x, hx, hv⟩ := hf j hjn
        rw [List.getElem?_drop] at hj
        exact ⟨x, by simp [hjn, hx], (hv v hj).1⟩
      · cases hj
    · rcases Nat.lt_or_ge j n with hjn | hjn
      · obtain ⟨x, hx, _⟩ := hf j hjn
        simp [hjn, hx] at hy
        rw [addr_add, Nat.add_assoc, hx, hy]
      · obtain ⟨hlt, _⟩ := List.getElem?_eq_some_iff.1 hy
        simp at hlt
        omega
    · rw [List.all_eq_true]
      intro v hv
      obtain ⟨j, hj⟩ := List.mem_iff_getElem?.1 hv
      rw [List.getElem?_take] at hj
      split at hj
      · rename_i hjn
        obtain ⟨x, hx, hv⟩ := hf j hjn
        rw [List.getElem?_drop] at hj
        exact (hv v hj).2
      · cases hj
  · cases e

theorem szOf_run {t : TypeId} {n : Nat} (e : szOf c.P t = some n) (w : World) : (sizeOf t).run c.P w = .ok n w := by
  simp only [szOf, Option.map_eq_some_iff] at e
  obtain ⟨i, hi, rfl⟩ := e
  simp [sizeOf, typeInfo, hi]

theorem info_run {t : TypeId} {i : TypeInfo} (e : c.P.info? t = some i) (w : World) : (typeInfo t).run c.P w = .ok i w := by
  simp [typeInfo, e]

theorem isAggT_run {t : TypeId} {b : Bool} (e : isAggT c.P t = some b) (w : World) : (isAgg t).run c.P w = .ok b w := by
  simp only [isAggT, Option.map_eq_some_iff] at e
  obtain ⟨d, hd, rfl⟩ := e
  simp only [isAgg, Sem.run_bind, run_underlying hd, Result.andThen_ok]
  split <;> simp_all

theorem load_sound (h : Rel c base w0 ρ H w) {t : TypeId} {q v : AV} (e : aload c H t q = some v) {x : Value} (hx : VR ρ q x) :
    ∃ y, (Instr.loadAt t x).run c.P w = .ok y w ∧ VR ρ v y := by
  unfold aload at e
  split at e
  · rename_i l off
    obtain ⟨p, hp, rfl⟩ := hx
    simp only [Option.bind_eq_some_iff] at e
    obtain ⟨ag, hag, e⟩ := e
    split at e
    · rename_i hag1
      subst hag1
      simp only [Option.bind_eq_some_iff, Option.map_eq_some_iff] at e
      obtain ⟨n, hn, vs, hvs, rfl⟩ := e
      obtain ⟨xs, hl, hr, hc, _⟩ := rd_sound h hvs hp
      subst hl
      refine ⟨.agg xs.toArray, ?_, xs, hr, rfl⟩
      simp [Instr.loadAt, Instr.sureAddr, loadVar, isAggT_run hag, szOf_run hn, run_loadCells_list w _ xs hc]
    · rename_i hag1
      have : ag = false := by simpa using hag1
      subst this
      simp only [Option.bind_eq_some_iff] at e
      obtain ⟨vs, hvs, e⟩ := e
      split at e
      · rename_i v0
        cases e
        obtain ⟨xs, hl, hr, hc, _⟩ := rd_sound h hvs hp
        obtain ⟨y, ys, rfl, hv, hys⟩ := hr
        have := hc 0 y (by simp)
        rw [addr_add] at this
        simp only [Nat.add_zero] at this
        exact ⟨y, by simp [Instr.loadAt, Instr.sureAddr, loadVar, isAggT_run hag, this], hv⟩
      · cases e
  · cases e

theorem apart_sound {t : TypeId} {cs : List AV} {off : Nat} {v : AV} (e : apart c t cs off = some v) {xs : List Value} (hx : VRs ρ cs xs) (w : World) :
    ∃ y, (part t xs.toArray off).run c.P w = .ok y w ∧ VR ρ v y := by
  simp only [apart, Option.bind_eq_some_iff] at e
  obtain ⟨ag, hag, e⟩ := e
  split at e
  · rename_i h1; subst h1
    simp only [Option.bind_eq_some_iff] at e
    obtain ⟨n, hn, e⟩ := e
    split at e
    · cases e
      refine ⟨.agg (xs.toArray.extract off (off + n)), by simp [part, isAggT_run hag, szOf_run hn], ((xs.drop off).take n), (hx.drop off).take n, ?_⟩
      simp [List.extract_eq_take_drop]
    · cases e
  · rename_i h1
    have : ag = false := by simpa using h1
    subst this
    obtain ⟨y, hy, hv⟩ := hx.get e
    refine ⟨y, ?_, hv⟩
    have hy' : xs.toArray[off]? = some y := by simpa using hy
    simp [part, isAggT_run hag, hy']

theorem field_sound {t : TypeId} {x v : AV} {f : Nat} (e : afield c t x f = some v) {y : Value} (hy : VR ρ x y) (w : World) : ∃ z, (Instr.field t y f).run c.P w = .ok z w ∧ VR ρ v z := by
  unfold afield at e
  split at e
  · rename_i cs
    obtain ⟨xs, hxs, rfl⟩ := hy
    simp only [Option.bind_eq_some_iff] at e
    obtain ⟨d, hd, e⟩ := e
    split at e
    · rename_i fs
      simp only [Option.bind_eq_some_iff] at e
      obtain ⟨g, hg, e⟩ := e
      obtain ⟨z, hz, hv⟩ := apart_sound e hxs w
      exact ⟨z, by simp [Instr.field, run_underlying hd, hg, asAgg, hz], hv⟩
    · cases e
  · cases e

theorem fieldAddr_sound {t : TypeId} {x v : AV} {f : Nat} (e : afieldAddr c t x f = some v) {y : Value} (hy : VR ρ x y) (w : World) : ∃ z, (Instr.fieldAt t y f).run c.P w = .ok z w ∧ VR ρ v z := by
  unfold afieldAddr at e
  split at e
  · rename_i l off
    obtain ⟨p, hp, rfl⟩ := hy
    simp only [Option.bind_eq_some_iff] at e
    obtain ⟨d, hd, e⟩ := e
    split at e
    · rename_i fs
      simp only [Option.bind_eq_some_iff] at e
      obtain ⟨g, hg, n, hn, e⟩ := e
      split at e
      · cases e
      · rename_i hn0
        cases e
        refine ⟨.pointer (some ⟨p.b, p.off + off + g.offset, none⟩), ?_, p, hp, by simp [Nat.add_assoc]⟩
        simp [Instr.fieldAt, run_underlying hd, hg, Instr.sureAddr, fieldPlace, szOf_run hn, hn0, addr_add]
    · cases e
  · cases e

theorem indexAddr_sound {t : TypeId} {x i v : AV} (e : aindexAddr c t x i = some v) {y z : Value} (hy : VR ρ x y) (hz : VR ρ i z) (w : World) : ∃ u, (Instr.indexAt t y z).run c.P w = .ok u w ∧ VR ρ v u := by
  unfold aindexAddr at e
  split at e
  · rename_i k i
    simp only [VR] at hz; subst hz
    simp only [Option.bind_eq_some_iff] at e
    obtain ⟨d, hd, e⟩ := e
    split at e
    · rename_i len el l off
      obtain ⟨p, hp, rfl⟩ := hy
      simp only [Option.bind_eq_some_iff] at e
      obtain ⟨n, hn, e⟩ := e
      split at e
      · rename_i hi
        cases e
        refine ⟨.pointer (some ⟨p.b, p.off + off + i.toNat * n, none⟩), ?_, p, hp, by simp [Nat.add_assoc]⟩
        simp [Instr.indexAt, asIntOf, run_underlying hd, Instr.sureAddr, hi, szOf_run hn, addr_add]
      · cases e
    · rename_i el l esz start len
      obtain ⟨p, hp, hcap, rfl⟩ := hy
      simp only [Option.bind_eq_some_iff] at e
      obtain ⟨n, hn, e⟩ := e
      split at e
      · rename_i hi
        obtain ⟨rfl, hi⟩ := hi
        cases e
        refine ⟨.pointer (some ⟨p.b, p.off + start * n + i.toNat * n, none⟩), ?_, p, hp, by simp [Nat.add_mul, Nat.add_assoc]⟩
        simp [Instr.indexAt, asIntOf, run_underlying hd, Instr.sureAddr, hi, szOf_run hn, addr_add]
      · cases e
    · cases e
  · cases e

theorem index_sound {t : TypeId} {x i v : AV} (e : aindex c t x i = some v) {y z : Value} (hy : VR ρ x y) (hz : VR ρ i z) (w : World) : ∃ u, (Instr.index t y z).run c.P w = .ok u w ∧ VR ρ v u := by
  unfold aindex at e
  split at e
  · rename_i k i
    simp only [VR] at hz; subst hz
    simp only [Option.bind_eq_some_iff] at e
    obtain ⟨d, hd, e⟩ := e
    split at e
    · rename_i len el cs
      obtain ⟨xs, hxs, rfl⟩ := hy
      simp only [Option.bind_eq_some_iff] at e
      obtain ⟨n, hn, e⟩ := e
      split at e
      · rename_i hi
        obtain ⟨u, hu, hv⟩ := apart_sound e hxs w
        exact ⟨u, by simp [Instr.index, asIntOf, run_underlying hd, hi, szOf_run hn, hu], hv⟩
      · cases e
    · rename_i s
      simp only [VR] at hy; subst hy
      split at e
      · rename_i hi
        simp only [Option.map_eq_some_iff] at e
        obtain ⟨b, hb, rfl⟩ := e
        refine ⟨_, ?_, rfl⟩
        have hb' : (⟨s.toArray⟩ : ByteArray)[i.toNat]? = some b := by
          have hlt : i.toNat < s.length := by
            rcases Nat.lt_or_ge i.toNat s.length with h' | h'
            · exact h'
            · rw [List.getElem?_eq_none h'] at hb; cases hb
          rw [List.getElem?_eq_getElem hlt] at hb
          cases hb
          rw [getElem?_pos _ _ (by simpa [ByteArray.size] using hlt)]
          rfl
        simp [Instr.index, asIntOf, run_underlying hd, hi, hb']
      · cases e
    · cases e
  · cases e

end Go.AM

/-
  THE OPERATIONS, second part (own work): arithmetic, texts, tests, conversions, keys and entries of maps, lengths, assertions.
-/
namespace Go.AM
open Go.RowKit
set_option linter.unusedSimpArgs false

variable {c : Ctx} {base : Nat} {w0 w : World} {ρ : Pl} {H : AHeap}

theorem baTo (l : List UInt8) : (⟨l.toArray⟩ : ByteArray).toList = l := by
  rw [show (⟨l.toArray⟩ : ByteArray).toList = (⟨l.toArray⟩ : ByteArray).data.toList from by simp]

theorem aint_sound {op : BinOp} {k : IntKind} {a b : Int} {v : AV} (e : aint op k a b = some v) (t : TypeId) (w : World) : ∃ u, (binOp op t (.int k a) (.int k b)).run c.P w = .ok u w ∧ VR ρ v u := by
  cases op <;> simp only [aint, acmp] at e
  case add => cases e; exact ⟨_, by simp [binOp, Op.intArith], rfl⟩
  case sub => cases e; exact ⟨_, by simp [binOp, Op.intArith], rfl⟩
  case mul => cases e; exact ⟨_, by simp [binOp, Op.intArith], rfl⟩
  case quo => split at e <;> cases e; rename_i h; exact ⟨_, by simp [binOp, Op.intDiv, h], rfl⟩
  case rem => split at e <;> cases e; rename_i h; exact ⟨_, by simp [binOp, Op.intDiv, h], rfl⟩
  case and => cases e; exact ⟨_, by simp [binOp, Op.intBits], rfl⟩
  case or => cases e; exact ⟨_, by simp [binOp, Op.intBits], rfl⟩
  case xor => cases e; exact ⟨_, by simp [binOp, Op.intBits], rfl⟩
  case andNot => cases e; exact ⟨_, by simp [binOp, Op.intBits], rfl⟩
  case shl => cases e
  case shr => cases e
  all_goals (cases e; exact ⟨_, by simp [binOp, Op.intCmp], rfl⟩)

theorem ashift_sound {op : BinOp} {k k' : IntKind} {a b : Int} {v : AV} (e : ashift op k a b = some v) (t : TypeId) (w : World) : ∃ u, (binOp op t (.int k a) (.int k' b)).run c.P w = .ok u w ∧ VR ρ v u := by
  unfold ashift at e
  split at e
  · cases e
  · rename_i hb
    split at e
    · cases e; exact ⟨_, by simp [binOp, Op.shift, hb], rfl⟩
    · cases e; exact ⟨_, by simp [binOp, Op.shift, hb], rfl⟩
    · cases e

theorem astr_sound {op : BinOp} {a b : List UInt8} {v : AV} (e : astr op a b = some v) (t : TypeId) (w : World) : ∃ u, (binOp op t (.string ⟨a.toArray⟩) (.string ⟨b.toArray⟩)).run c.P w = .ok u w ∧ VR ρ v u := by
  cases op <;> simp only [astr] at e
  case add =>
    split at e
    · rename_i h
      cases e
      refine ⟨.string ⟨(a ++ b).toArray⟩, ?_, rfl⟩
      have hs : (⟨a.toArray⟩ : ByteArray).size = a.length := by simp [ByteArray.size]
      have hs' : (⟨b.toArray⟩ : ByteArray).size = b.length := by simp [ByteArray.size]
      have hm : IntKind.i64.max = 9223372036854775807 := by decide
      have hn : ¬ ((((⟨a.toArray⟩ : ByteArray).size + (⟨b.toArray⟩ : ByteArray).size : Nat) : Int) > IntKind.i64.max) := by rw [hs, hs', hm]; omega
      have ha : (⟨a.toArray⟩ : ByteArray) ++ ⟨b.toArray⟩ = ⟨(a ++ b).toArray⟩ := by
        apply ByteArray.ext
        simp [ByteArray.data_append]
      simp only [binOp, Op.stringOp, if_neg hn, ha]
      rfl
    · cases e
  case eql => cases e; exact ⟨.bool (a == b), by simp [binOp, Op.stringOp, baTo], rfl⟩
  case neq => cases e; exact ⟨.bool (!(a == b)), by simp [binOp, Op.stringOp, baTo], rfl⟩
  case lss => cases e; exact ⟨.bool (Op.bytesLess a b), by simp [binOp, Op.stringOp, baTo], rfl⟩
  case leq => cases e; exact ⟨.bool (Op.bytesLess a b || a == b), by simp [binOp, Op.stringOp, baTo], rfl⟩
  case gtr => cases e; exact ⟨.bool (!(Op.bytesLess a b || a == b)), by simp [binOp, Op.stringOp, baTo], rfl⟩
  case geq => cases e; exact ⟨.bool (!(Op.bytesLess a b)), by simp [binOp, Op.stringOp, baTo], rfl⟩
  all_goals cases e

theorem equalIn_run {t : TypeId} {d : TypeDesc} (hd : c.P.underlying t = some d) {x y : AV} {b : Bool} (e : aeq d x y = some b) {x' y' : Value} (hx : VR ρ x x') (hy : VR ρ y y') (w : World) (n : Nat) :
    (Op.equalIn (n + 1) t x' y').run c.P w = .ok b w := by
  unfold aeq at e
  split at e <;> (try cases e) <;> (split at e <;> cases e) <;> (simp only [VR] at hx hy) <;>
    (first | subst hx | obtain ⟨_, _, rfl⟩ := hx | obtain ⟨_, _, _, rfl⟩ := hx | obtain ⟨_, _, _, _, rfl⟩ := hx) <;>
    (first | subst hy | obtain ⟨_, _, rfl⟩ := hy | obtain ⟨_, _, _, rfl⟩ := hy | obtain ⟨_, _, _, _, rfl⟩ := hy) <;>
    simp [Op.equalIn, run_underlying hd]

theorem equal_run {t : TypeId} {d : TypeDesc} (hd : c.P.underlying t = some d) {x y : AV} {b : Bool} (e : aeq d x y = some b) {x' y' : Value} (hx : VR ρ x x') (hy : VR ρ y y') (w : World) :
    (Op.equal t x' y').run c.P w = .ok b w := equalIn_run hd e hx hy w 9999

/-- 'eqGuard' lets pass what 'aeq' tells. -/
theorem guard_run {t : TypeId} {d : TypeDesc} {x y : AV} {b : Bool} (e : aeq d x y = some b) {x' y' : Value} (hx : VR ρ x x') (hy : VR ρ y y') (op : BinOp) (p q : Operand) (w : World) :
    (eqGuard op t p q x' y').run c.P w = .ok () w := by
  unfold aeq at e
  split at e <;> (try cases e) <;> (split at e <;> cases e) <;> (simp only [VR] at hx hy) <;>
    (first | subst hx | obtain ⟨_, _, rfl⟩ := hx | obtain ⟨_, _, _, rfl⟩ := hx | obtain ⟨_, _, _, _, rfl⟩ := hx) <;>
    (first | subst hy | obtain ⟨_, _, rfl⟩ := hy | obtain ⟨_, _, _, rfl⟩ := hy | obtain ⟨_, _, _, _, rfl⟩ := hy) <;>
    (cases op <;> simp [eqGuard])

theorem aeqF_sound {eq : TypeId → AV → AV → Option Bool} {d : Nat} {w : World} (hq : ∀ {t : TypeId} {x y : AV} {b : Bool} {x' y' : Value}, eq t x y = some b → VR ρ x x' → VR ρ y y' → (Op.equalIn d t x' y').run c.P w = .ok b w)
    {xs ys : List AV} {us vs : List Value} (hx : VRs ρ xs us) (hy : VRs ρ ys vs) : ∀ {fs : List Field} {b : Bool}, aeqF eq c xs ys fs = some b → (Op.eqFields d us.toArray vs.toArray fs).run c.P w = .ok b w
  | [], b, e => by simp only [aeqF, Option.some.injEq] at e; subst e; simp [Op.eqFields]
  | f :: fs, b, e => by
    simp only [aeqF] at e
    split at e
    · cases e
    · rename_i hn
      simp only [Option.bind_eq_some_iff] at e
      obtain ⟨a1, h1, a2, h2, r, h3, e⟩ := e
      obtain ⟨u1, hu1, hv1⟩ := apart_sound h1 hx w
      obtain ⟨u2, hu2, hv2⟩ := apart_sound h2 hy w
      have h4 := hq h3 hv1 hv2
      simp only [Op.eqFields, if_pos hn, Sem.run_bind, hu1, hu2, h4, Result.andThen_ok]
      cases r with
      | true => simpa using aeqF_sound hq hx hy (by simpa using e)
      | false => simp at e; subst e; simp

theorem aeqT_sound (w : World) : ∀ (n : Nat) {d : Nat}, n ≤ d → ∀ {t : TypeId} {x y : AV} {b : Bool} {x' y' : Value}, aeqT c n t x y = some b → VR ρ x x' → VR ρ y y' → (Op.equalIn d t x' y').run c.P w = .ok b w
  | 0, d, _, t, x, y, b, x', y', e, _, _ => by simp [aeqT] at e
  | n + 1, 0, h, _, _, _, _, _, _, _, _, _ => by omega
  | n + 1, d + 1, h, t, x, y, b, x', y', e, hx, hy => by
    simp only [aeqT, Option.bind_eq_some_iff] at e
    obtain ⟨u, hu, e⟩ := e
    split at e
    · split at e
      · split at e
        · rename_i hk; subst hk; cases e; simp only [VR] at hx hy; subst hx hy; exact run_equalIn_int w d t _ _ _ _ hu
        · cases e
      · cases e
    · split at e
      · cases e; simp only [VR] at hx hy; subst hx hy
        rename_i a b'
        rw [run_equalIn_string w d t _ _ hu]
        simp [ByteArray.toList_eq]
      · cases e
    · split at e
      · rename_i xs ys fs
        split at e
        · cases e
        · rename_i hs
          obtain ⟨us, hus, rfl⟩ := hx
          obtain ⟨vs, hvs, rfl⟩ := hy
          have hf : c.P.fieldsOf t = fs := by simp [Program.fieldsOf, hu]
          rw [run_equalIn_struct w d t us.toArray vs.toArray (by rw [hf]; exact hu) (by simpa using hs), hf]
          exact aeqF_sound (fun e hx hy => aeqT_sound w n (by omega) e hx hy) hus hvs e
      · cases e
    · exact equalIn_run hu e hx hy w d

theorem bin_sound {op : BinOp} {t : TypeId} {x y v : AV} (e : abin c op t x y = some v) {x' y' : Value} (hx : VR ρ x x') (hy : VR ρ y y') (p q : Operand) (w : World) :
    ∃ u, ((do eqGuard op t p q x' y'; binOp op t x' y' : Sem Value)).run c.P w = .ok u w ∧ VR ρ v u := by
  unfold abin at e
  split at e
  · rename_i k a k' b
    simp only [VR] at hx hy; subst hx hy
    have hg : ∀ op, (eqGuard op t p q (.int k a) (.int k' b)).run c.P w = .ok () w := fun op => by cases op <;> simp [eqGuard]
    split at e
    · obtain ⟨u, hu, hv⟩ := ashift_sound (c := c) (ρ := ρ) (k' := k') e t w
      exact ⟨u, by simp [hg, hu], hv⟩
    · obtain ⟨u, hu, hv⟩ := ashift_sound (c := c) (ρ := ρ) (k' := k') e t w
      exact ⟨u, by simp [hg, hu], hv⟩
    · split at e
      · rename_i hk; subst hk
        obtain ⟨u, hu, hv⟩ := aint_sound (c := c) (ρ := ρ) e t w
        exact ⟨u, by simp [hg, hu], hv⟩
      · cases e
  · rename_i a b
    simp only [VR] at hx hy; subst hx hy
    obtain ⟨u, hu, hv⟩ := astr_sound (c := c) (ρ := ρ) e t w
    have hg : (eqGuard op t p q (.string ⟨a.toArray⟩) (.string ⟨b.toArray⟩)).run c.P w = .ok () w := by cases op <;> simp [eqGuard]
    exact ⟨u, by simp [hg, hu], hv⟩
  · rename_i xs ys
    split at e
    · cases e
    · rename_i hg
      have hg' : c.P.eqGuardType c.P.depth t = false := by simpa using hg
      obtain ⟨us, hus, rfl⟩ := hx
      obtain ⟨vs, hvs, rfl⟩ := hy
      split at e
      · simp only [Option.map_eq_some_iff] at e
        obtain ⟨b, hb, rfl⟩ := e
        have hq := aeqT_sound (ρ := ρ) w 9 (d := 10000) (by omega) hb ⟨us, hus, rfl⟩ ⟨vs, hvs, rfl⟩
        exact ⟨.bool b, by rw [Sem.run_bind, run_eqGuard_agg w _ t p q _ _ hg', Result.andThen_ok, run_eql_struct, hq]; rfl, rfl⟩
      · simp only [Option.map_eq_some_iff] at e
        obtain ⟨b, hb, rfl⟩ := e
        have hq := aeqT_sound (ρ := ρ) w 9 (d := 10000) (by omega) hb ⟨us, hus, rfl⟩ ⟨vs, hvs, rfl⟩
        exact ⟨.bool (!b), by rw [Sem.run_bind, run_eqGuard_agg w _ t p q _ _ hg', Result.andThen_ok, run_neq_struct, hq]; rfl, rfl⟩
      · cases e
  · simp only [Option.bind_eq_some_iff] at e
    obtain ⟨d, hd, e⟩ := e
    split at e
    · simp only [Option.map_eq_some_iff] at e
      obtain ⟨b, hb, rfl⟩ := e
      refine ⟨.bool b, ?_, rfl⟩
      have hq := equal_run hd hb hx hy w
      have hb' : binOp .eql t x' y' = (do pure (.bool (← Op.equal t x' y'))) := by
        unfold aeq at hb
        split at hb <;> (try cases hb) <;> (simp only [VR] at hx hy) <;>
          (first | subst hx | obtain ⟨_, _, rfl⟩ := hx | obtain ⟨_, _, _, rfl⟩ := hx | obtain ⟨_, _, _, _, rfl⟩ := hx) <;>
          (first | subst hy | obtain ⟨_, _, rfl⟩ := hy | obtain ⟨_, _, _, rfl⟩ := hy | obtain ⟨_, _, _, _, rfl⟩ := hy) <;> rfl
      rw [Sem.run_bind, guard_run hb hx hy .eql p q w, Result.andThen_ok, hb', Sem.run_bind, hq]
      rfl
    · simp only [Option.map_eq_some_iff] at e
      obtain ⟨b, hb, rfl⟩ := e
      refine ⟨.bool (!b), ?_, rfl⟩
      have hq := equal_run hd hb hx hy w
      have hb' : binOp .neq t x' y' = (do pure (.bool (!(← Op.equal t x' y')))) := by
        unfold aeq at hb
        split at hb <;> (try cases hb) <;> (simp only [VR] at hx hy) <;>
          (first | subst hx | obtain ⟨_, _, rfl⟩ := hx | obtain ⟨_, _, _, rfl⟩ := hx | obtain ⟨_, _, _, _, rfl⟩ := hx) <;>
          (first | subst hy | obtain ⟨_, _, rfl⟩ := hy | obtain ⟨_, _, _, rfl⟩ := hy | obtain ⟨_, _, _, _, rfl⟩ := hy) <;> rfl
      rw [Sem.run_bind, guard_run hb hx hy .neq p q w, Result.andThen_ok, hb', Sem.run_bind, hq]
      rfl
    · cases e

theorem un_sound {op : UnOp} {x v : AV} (e : aun op x = some v) {x' : Value} (hx : VR ρ x x') (w : World) : ∃ u, (Op.unary op x').run c.P w = .ok u w ∧ VR ρ v u := by
  unfold aun at e
  split at e
  · cases e; simp only [VR] at hx; subst hx; exact ⟨_, by simp [Op.unary, Op.intArith], rfl⟩
  · cases e; simp only [VR] at hx; subst hx; exact ⟨_, by simp [Op.unary], rfl⟩
  · simp only [aint] at e
    cases e; simp only [VR] at hx; subst hx; exact ⟨_, by simp [Op.unary, Op.intBits], rfl⟩
  · cases e

theorem conv_sound {src dst : TypeId} {x v : AV} (e : aconv c src dst x = some v) {x' : Value} (hx : VR ρ x x') (w : World) : ∃ u, (convert src dst x').run c.P w = .ok u w ∧ VR ρ v u := by
  simp only [aconv, Option.bind_eq_some_iff] at e
  obtain ⟨s, hs, d, hd, e⟩ := e
  split at e
  · cases e; simp only [VR] at hx; subst hx
    exact ⟨_, by simp [convert, run_underlying hs, run_underlying hd, Conv.intToInt], rfl⟩
  · cases e; simp only [VR] at hx; subst hx
    exact ⟨_, by simp [convert, run_underlying hs, run_underlying hd], rfl⟩
  · cases e

theorem zeroAV_run {t : TypeId} {v : AV} (e : zeroAV c.P t = some v) (w : World) : ∃ z, (zeroValue t).run c.P w = .ok z w ∧ VR ρ v z := by
  simp only [zeroAV, Option.bind_eq_some_iff] at e
  obtain ⟨i, hi, z, hz, e⟩ := e
  exact ⟨z, by simp [zeroValue, typeInfo, hi, hz], constAV_sound e⟩

theorem zeroCells_run {t : TypeId} {vs : List AV} (e : zeroCells c.P t = some vs) (w : World) : ∃ z, (zeroValue t).run c.P w = .ok z w ∧ VRs ρ vs z.cells.toList := by
  simp only [zeroCells, Option.bind_eq_some_iff] at e
  obtain ⟨i, hi, z, hz, e⟩ := e
  exact ⟨z, by simp [zeroValue, typeInfo, hi, hz], mapO_scAV e⟩

theorem extract_sound {l : List AV} {i : Nat} {v : AV} (e : l[i]? = some v) {x' : Value} (hx : VR ρ (.tuple l) x') (w : World) : ∃ u, (Instr.extract x' i).run c.P w = .ok u w ∧ VR ρ v u := by
  obtain ⟨xs, hxs, rfl⟩ := hx
  obtain ⟨y, hy, hv⟩ := hxs.get e
  exact ⟨y, by simp [Instr.extract, hy], hv⟩

/-! maps: keys -/

theorem keyEq_now {d : TypeDesc} {k k' : AV} {b : Bool} (e : keyEq d k k' = some b) {x x' : Value} (hx : VR ρ k x) (hy : VR ρ k' x') : Instr.sameNow d x x' = some b := by
  unfold keyEq at e
  split at e <;> (try cases e) <;> (simp only [VR] at hx hy) <;> subst hx hy <;> (split at e <;> (try cases e))
  · split at e
    · rename_i h; cases e; simp [Instr.sameNow, h]
    · cases e
  · simp only [Instr.sameNow, Option.some.injEq]
    rw [Bool.eq_iff_iff, beq_toListBytes, beq_iff_eq, beq_iff_eq, baTo, baTo]
  · simp [Instr.sameNow]

/-- what a search in the entries tells -/
def FR (ρ : Pl) : Option (Nat × AV) → Option (Nat × Value) → Prop
  | none, none => True
  | some (j, v), some (j', y) => j = j' ∧ VR ρ v y
  | _, _ => False

theorem findKey_now {d : TypeDesc} {k : AV} {x : Value} (hx : VR ρ k x) {es : List (AV × AV × Nat)} {xs : List MapEntry} (hr : EntR ρ es xs) : ∀ {i : Nat} {r : Option (Nat × AV)}, findKey d k es i = some r →
    ∃ r', Instr.findNow d x xs i = some r' ∧ FR ρ r r' := by
  induction hr with
  | nil => intro i r e; simp [findKey] at e; subst e; exact ⟨none, rfl, trivial⟩
  | @cons k' v n es x' y xs hk hv _ ih =>
    intro i r e
    simp only [findKey, Option.bind_eq_some_iff] at e
    obtain ⟨b, hb, e⟩ := e
    have hn := keyEq_now hb hx hk
    cases b with
    | true => simp at e; subst e; exact ⟨some (i, y), by simp [Instr.findNow, hn], rfl, hv⟩
    | false =>
      obtain ⟨r', h1, h2⟩ := ih (by simpa using e)
      exact ⟨r', by simp [Instr.findNow, hn, h1], h2⟩

theorem findKey_run {kt : TypeId} {d : TypeDesc} (hd : c.P.underlying kt = some d) {k : AV} {x : Value} (hx : VR ρ k x) {es : List (AV × AV × Nat)} {xs : List MapEntry} (hr : EntR ρ es xs) {r : Option (Nat × AV)} (e : findKey d k es 0 = some r) (w : World) :
    ∃ r', (Instr.findKey kt x xs).run c.P w = .ok r' w ∧ FR ρ r r' := by
  obtain ⟨r', h1, h2⟩ := findKey_now hx hr e
  exact ⟨r', by simp [Instr.findKey, run_underlying hd, h1], h2⟩

theorem checkKey_run {kt : TypeId} {d : TypeDesc} (hd : c.P.underlying kt = some d) {k : AV} (hk : keyOk d k = true) {x : Value} (hx : VR ρ k x) (b : Bool) (w : World) : (Instr.checkKey b 10000 kt x).run c.P w = .ok () w := by
  have gen : ∀ n, (Instr.checkKey b (n + 1) kt x).run c.P w = .ok () w := by
    intro n
    unfold keyOk at hk
    split at hk <;> (try cases hk) <;> (simp only [VR] at hx) <;> subst hx <;> (split at hk <;> (try cases hk)) <;> simp [Instr.checkKey, run_underlying hd]
  exact gen 9999

/-- the entries of a map as the model has them -/
theorem entries_sound (h : Rel c base w0 ρ H w) {m : AV} {es : List (AV × AV × Nat)} (e : entries H m = some es) {x : Value} (hx : VR ρ m x) :
    (x = .map none ∧ es = []) ∨ ∃ (b : Nat) (ents : Array MapEntry) (clock : Nat), x = .map (some b) ∧ w.heap[b]? = some (.map ents clock) ∧ EntR ρ es ents.toList := by
  unfold entries at e
  split at e
  · cases e; exact .inl ⟨hx, rfl⟩
  · rename_i i
    split at e
    · rename_i es' clock ho
      cases e
      obtain ⟨q, hq, ⟨ents, h1, h2⟩, _⟩ := h.own i _ ho
      obtain ⟨p, hp, rfl⟩ := hx
      obtain rfl : p = q := by rw [hp] at hq; exact Option.some.inj hq
      exact .inr ⟨p.b, ents, clock, rfl, h1, h2⟩
    · cases e
  · cases e

theorem lookup_sound (h : Rel c base w0 ρ H w) {t : TypeId} {m k v : AV} {ok : Bool} (e : alookup c H t m k ok = some v) {x y : Value} (hx : VR ρ m x) (hy : VR ρ k y) :
    ∃ u, (Instr.lookup t x y ok).run c.P w = .ok u w ∧ VR ρ v u := by
  simp only [alookup, Option.bind_eq_some_iff] at e
  obtain ⟨d, hd, e⟩ := e
  split at e
  · rename_i kt vt
    simp only [Option.bind_eq_some_iff] at e
    obtain ⟨kd, hkd, e⟩ := e
    split at e
    · rename_i hko
      simp only [Option.bind_eq_some_iff] at e
      obtain ⟨es, hes, r, hr, e⟩ := e
      have main : ∀ (xs : Array MapEntry), EntR ρ es xs.toList → ∃ u, ((do
            Instr.checkKey xs.isEmpty 10000 kt y
            let (v, ok') ← match ← Instr.findKey kt y xs.toList with
              | some (_, v) => pure (v, true)
              | none => pure (← zeroValue vt, false)
            pure (if ok then .tuple #[v, .bool ok'] else v) : Sem Value)).run c.P w = .ok u w ∧ VR ρ v u := by
        intro xs hxs
        obtain ⟨r', h1, h2⟩ := findKey_run hkd hy hxs hr w
        split at e
        · rename_i j v0
          cases e
          cases r' with
          | none => exact h2.elim
          | some q =>
            obtain ⟨j', z⟩ := q
            obtain ⟨_, hv⟩ := h2
            cases ok with
            | true => exact ⟨.tuple #[z, .bool true], by simp [checkKey_run hkd hko hy, h1], [z, .bool true], ⟨z, [.bool true], rfl, hv, .bool true, [], rfl, rfl, rfl⟩, rfl⟩
            | false => exact ⟨z, by simp [checkKey_run hkd hko hy, h1], hv⟩
        · simp only [Option.map_eq_some_iff] at e
          obtain ⟨z, hz, rfl⟩ := e
          obtain ⟨zz, hzz, hv⟩ := zeroAV_run (c := c) (ρ := ρ) hz w
          cases r' with
          | some q => exact h2.elim
          | none =>
            cases ok with
            | true => exact ⟨.tuple #[zz, .bool false], by simp [checkKey_run hkd hko hy, h1, hzz], [zz, .bool false], ⟨zz, [.bool false], rfl, hv, .bool false, [], rfl, rfl, rfl⟩, rfl⟩
            | false => exact ⟨zz, by simp [checkKey_run hkd hko hy, h1, hzz], hv⟩
      rcases entries_sound h hes hx with ⟨rfl, rfl⟩ | ⟨b, ents, clock, rfl, hb, hE⟩
      · obtain ⟨u, hu, hv⟩ := main #[] .nil
        refine ⟨u, ?_, hv⟩
        rw [← hu]
        simp [Instr.lookup, run_underlying hd]
        rfl
      · obtain ⟨u, hu, hv⟩ := main ents hE
        refine ⟨u, ?_, hv⟩
        rw [← hu]
        have hg : (getObj b).run c.P w = .ok (.map ents clock) w := by simp [getObj, Sem.run, hb]
        simp [Instr.lookup, run_underlying hd, hg]
        rfl
    · cases e
  · cases e

theorem len_sound (h : Rel c base w0 ρ H w) {t ty : TypeId} {x v : AV} (e : alen c H t x = some v) {y : Value} (hy : VR ρ x y) (ts : Array TypeId) (hts : ts[0]? = some t) :
    ∃ u, (Builtin.len_ ts ty #[y]).run c.P w = .ok u w ∧ VR ρ v u := by
  simp only [alen, Option.bind_eq_some_iff] at e
  obtain ⟨d, hd, e⟩ := e
  have h0 : (#[y] : Array Value)[0]? = some y := rfl
  split at e
  · rename_i s
    cases e; simp only [VR] at hy; subst hy
    exact ⟨goInt (⟨s.toArray⟩ : ByteArray).size, by simp [Builtin.len_, hts, run_underlying hd], by simp [VR, goInt, ByteArray.size]⟩
  · cases e; simp only [VR] at hy; subst hy
    exact ⟨goInt 0, by simp [Builtin.len_, hts, run_underlying hd], by simp [VR, goInt]⟩
  · rename_i n
    cases e; obtain ⟨p, hp, _, rfl⟩ := hy
    exact ⟨goInt n, by simp [Builtin.len_, hts, run_underlying hd], by simp [VR, goInt]⟩
  · cases e; simp only [VR] at hy; subst hy
    exact ⟨goInt 0, by simp [Builtin.len_, hts, run_underlying hd], by simp [VR, goInt]⟩
  · rename_i n _
    cases e
    exact ⟨goInt n, by simp [Builtin.len_, hts, run_underlying hd], by simp [VR, goInt]⟩
  · rename_i kt vt
    simp only [Option.map_eq_some_iff] at e
    obtain ⟨es, hes, rfl⟩ := e
    rcases entries_sound h hes hy with ⟨rfl, rfl⟩ | ⟨b, ents, clock, rfl, hb, hE⟩
    · exact ⟨goInt 0, by simp [Builtin.len_, hts, run_underlying hd], by simp [VR, goInt]⟩
    · have hg : (getObj b).run c.P w = .ok (.map ents clock) w := by simp [getObj, Sem.run, hb]
      exact ⟨goInt ents.size, by simp [Builtin.len_, hts, run_underlying hd, hg], by simp [VR, goInt, ← hE.length]⟩
  · cases e

end Go.AM

/-
  THE OPERATIONS, third part (own work): what makes blocks or writes to them.
-/
namespace Go.AM
open Go.RowKit
set_option linter.unusedSimpArgs false

variable {c : Ctx} {base : Nat} {w0 w : World} {ρ : Pl} {H : AHeap}

theorem heap_alloc_new (w : World) (o : Obj) : (w.alloc o).heap[w.heap.size]? = some o := by
  show (w.heap.push o)[w.heap.size]? = some o
  simp

theorem seg_get {α : Type} (a v : List α) (off j : Nat) (h : off + v.length ≤ a.length) :
    (a.take off ++ (v ++ a.drop (off + v.length)))[j]? = if j < off then a[j]? else if j < off + v.length then v[j - off]? else a[j]? := by
  have ht : (a.take off).length = off := by rw [List.length_take]; omega
  split
  · rename_i hj
    rw [List.getElem?_append_left (by omega), List.getElem?_take, if_pos hj]
  · rename_i hj
    rw [List.getElem?_append_right (by omega), ht]
    split
    · rename_i hj2
      rw [List.getElem?_append_left (by omega)]
    · rename_i hj2
      rw [List.getElem?_append_right (by omega), List.getElem?_drop]
      congr 1; omega

theorem setSeg_length (cs : List AV) (off : Nat) (vs : List AV) (h : off + vs.length ≤ cs.length) : (setSeg cs off vs).length = cs.length := by
  simp [setSeg]; omega

/-- cells stored into a row -/
theorem cells_set {cs vs : List AV} {off : Nat} {xs : List Value} {ds : Array Value} {po : Nat} (hle : off + vs.length ≤ cs.length) (hr : VRs ρ vs xs) (h1 : vs.all AV.one = true) (hsz : po + off + xs.length ≤ ds.size)
    (hc : ∀ (j : Nat) (v : AV), cs[j]? = some v → ∃ x, ds[po + j]? = some x ∧ VR ρ v x ∧ v.one = true) (j : Nat) (v : AV) (hj : (setSeg cs off vs)[j]? = some v) :
    ∃ x, (ds.toList.take (po + off + 0) ++ xs ++ ds.toList.drop (po + off + 0 + xs.length)).toArray[po + j]? = some x ∧ VR ρ v x ∧ v.one = true := by
  have hl := hr.length
  rw [setSeg, seg_get cs vs off j hle] at hj
  rw [List.getElem?_toArray, List.append_assoc, Nat.add_zero, seg_get ds.toList xs (po + off) (po + j) (by simpa using hsz)]
  split at hj
  · rename_i hlt
    rw [if_pos (by omega)]
    simpa using hc j v hj
  · rename_i hge
    split at hj
    · rename_i hlt
      rw [if_neg (by omega), if_pos (by omega)]
      obtain ⟨x, hx, hv⟩ := hr.get hj
      refine ⟨x, by rw [show po + j - (po + off) = j - off by omega]; exact hx, hv, ?_⟩
      exact List.all_eq_true.1 h1 v (List.mem_of_getElem? hj)
    · rename_i hge2
      rw [if_neg (by omega), if_neg (by omega)]
      simpa using hc j v hj

theorem all_one_sound {vs : List AV} {xs : List Value} (hr : VRs ρ vs xs) (h1 : vs.all AV.one = true) : ∀ x ∈ xs, x.oneCell' = true := by
  intro x hx
  obtain ⟨j, hj⟩ := List.mem_iff_getElem?.1 hx
  have hlt : j < vs.length := by rw [← hr.length]; exact (List.getElem?_eq_some_iff.1 hj).1
  obtain ⟨y, hy, hv⟩ := hr.get (List.getElem?_eq_getElem hlt)
  rw [hj] at hy; cases hy
  rw [hv.one]
  exact List.all_eq_true.1 h1 _ (List.getElem_mem hlt)

theorem wr_sound (h : Rel c base w0 ρ H w) {l : Loc} {off : Nat} {vs : List AV} {H' : AHeap} (e : wr H l off vs = some H') {p : Place} (hp : ρ l = some p) {xs : List Value} (hr : VRs ρ vs xs) :
    ∃ w', (storeCells ⟨p.b, p.off + off, none⟩ xs).run c.P w = .ok () w' ∧ Post c base w0 ρ H w ρ H' w' := by
  unfold wr at e
  split at e
  · rename_i i
    split at e
    · rename_i ty esz cs ho
      split at e
      · rename_i hle
        obtain ⟨hle, h1⟩ := hle
        cases e
        obtain ⟨q, hq, ⟨ds, g1, g2, g3, g4⟩, hb⟩ := h.own i _ ho
        obtain rfl : p = q := by rw [hp] at hq; exact Option.some.inj hq
        have hl := hr.length
        have hsz : p.off + off + xs.length ≤ ds.size := by omega
        have hrun := run_storeCells_at (P := c.P) p.b (p.off + off) ty xs 0 ds w g1 (by omega) (all_one_sound hr h1)
        refine ⟨_, hrun, ?_⟩
        refine post_set h ho rfl hp rfl rfl rfl (by simp) (fun k hk => setRow_other w p.b k _ hk) ?_
        refine ⟨_, setRow_heap w p.b ds _ ty (0, 0) g1, ?_, ?_, fun j v hj => cells_set hle hr h1 hsz g4 j v hj⟩
        · simp; omega
        · rw [setSeg_length cs off vs hle]; exact g3
      · cases e
    · cases e
  · cases e

theorem store_sound (h : Rel c base w0 ρ H w) {t : TypeId} {a v : AV} {H' : AHeap} (e : astore c H t a v = some H') {x y : Value} (hx : VR ρ a x) (hy : VR ρ v y) :
    ∃ w', (Instr.storeAt t x y).run c.P w = .ok () w' ∧ Post c base w0 ρ H w ρ H' w' := by
  unfold astore at e
  split at e
  · rename_i l off
    obtain ⟨p, hp, rfl⟩ := hx
    simp only [Option.bind_eq_some_iff] at e
    obtain ⟨n, hn, e⟩ := e
    split at e
    · rename_i hl
      obtain ⟨w', hw, hpost⟩ := wr_sound h e hp hy.cells
      refine ⟨w', ?_, hpost⟩
      have hsz : y.cells.size = n := by have := hy.cells.length; simp at this; omega
      simp [Instr.storeAt, Instr.sureAddr, storeVar, szOf_run hn, hsz, hw]
    · cases e
  · cases e

/-- a new row -/
theorem new_row (h : Rel c base w0 ρ H w) (hf : ρ (.own H.length) = none) {ty esz cap : Nat} {cs : List AV} {xs : List Value} (hr : VRs ρ cs xs) (h1 : cs.all AV.one = true) {ds : Array Value} (hd : ∀ (j : Nat) (x : Value), xs[j]? = some x → ds[j]? = some x)
    (hcap : cap * esz ≤ ds.size) (hlen : cs.length ≤ cap * esz) :
    Post c base w0 ρ H w (upd ρ (.own H.length) ⟨w.heap.size, 0, cap⟩) (hnew H (.row ty esz cs)) (w.alloc (.cells ds ty)) := by
  refine post_new h hf _ ⟨w.heap.size, 0, cap⟩ _ rfl ⟨ds, heap_alloc_new w _, by simpa using hcap, hlen, fun j v hj => ?_⟩
  obtain ⟨x, hx, hv⟩ := hr.get hj
  exact ⟨x, by simpa using hd j x hx, hv.mono (upd_ext hf), List.all_eq_true.1 h1 v (List.mem_of_getElem? hj)⟩

theorem new_sound (h : Rel c base w0 ρ H w) {t : TypeId} {cs : List AV} {v : AV} {H' : AHeap} (e : anew c H t cs = some (v, H')) (hf : ρ (.own H.length) = none) {y : Value} (hy : VRs ρ cs y.cells.toList) :
    ∃ ρ' x w', (newVar t y).run c.P w = .ok x w' ∧ VR ρ' v (.pointer (some x)) ∧ Post c base w0 ρ H w ρ' H' w' := by
  simp only [anew, Option.bind_eq_some_iff] at e
  obtain ⟨n, hn, e⟩ := e
  split at e
  · rename_i hc
    cases e
    have hl := hy.length
    refine ⟨_, ⟨w.heap.size, 0, none⟩, w.alloc (.cells y.cells t), by simp [newVar, newRow], ?_, new_row h hf (cap := 1) hy hc.2 (ds := y.cells) (fun j x hx => by simpa using hx) (by simp at hl; omega) (by omega)⟩
    exact ⟨⟨w.heap.size, 0, 1⟩, upd_same _ _ _, by simp⟩
  · cases e

theorem alloc_sound (h : Rel c base w0 ρ H w) {t : TypeId} {z : List AV} (hz : zeroCells c.P t = some z) {v : AV} {H' : AHeap} (e : anew c H t z = some (v, H')) (hf : ρ (.own H.length) = none) :
    ∃ ρ' x w', (Instr.alloc t true (.tuple #[])).run c.P w = .ok x w' ∧ VR ρ' v x ∧ Post c base w0 ρ H w ρ' H' w' := by
  obtain ⟨y, hy, hv⟩ := zeroCells_run (c := c) (ρ := ρ) hz w
  obtain ⟨ρ', x, w', h1, h2, h3⟩ := new_sound h e hf hv
  exact ⟨ρ', _, w', by simp [Instr.alloc, hy, h1], h2, h3⟩

theorem box_sound (h : Rel c base w0 ρ H w) {t : TypeId} {u v : AV} {H' : AHeap} (e : anew c H t u.cells = some (v, H')) (hf : ρ (.own H.length) = none) {y : Value} (hy : VR ρ u y) :
    ∃ ρ' x w', (Instr.box t y).run c.P w = .ok x w' ∧ VR ρ' v x ∧ Post c base w0 ρ H w ρ' H' w' := by
  obtain ⟨ρ', x, w', h1, h2, h3⟩ := new_sound h e hf hy.cells
  exact ⟨ρ', _, w', by simp [Instr.box, h1], h2, h3⟩

/-! literals -/

theorem fold_set (off : Nat) : ∀ (xs : List Value) (i : Nat) (cs : Array Value), off + i + xs.length ≤ cs.size →
    (xs.zipIdx i).foldl (fun (cs : Array Value) (p : Value × Nat) => cs.setIfInBounds (off + p.2) p.1) cs = (cs.toList.take (off + i) ++ (xs ++ cs.toList.drop (off + i + xs.length))).toArray
  | [], i, cs, _ => by simp
  | x :: r, i, cs, h => by
    simp only [List.length_cons] at h
    rw [List.zipIdx_cons, List.foldl_cons, fold_set off r (i + 1) _ (by simp; omega)]
    apply Array.ext'
    apply List.ext_getElem?
    intro j
    simp only [Array.toList_setIfInBounds]
    rw [seg_get (cs.toList.set (off + i) x) r (off + (i + 1)) j (by simp; omega)]
    have e2 := seg_get cs.toList (x :: r) (off + i) j (by simp; omega)
    simp only [List.length_cons] at e2 ⊢
    rw [e2, List.getElem?_set]
    by_cases h1 : j < off + i
    · rw [if_pos (by omega), if_pos h1, if_neg (by omega)]
    · rw [if_neg h1]
      by_cases h2 : j = off + i
      · subst h2
        rw [if_pos (by omega), if_pos rfl, if_pos (by simp; omega)]
        rw [if_pos (by omega)]; simp
      · by_cases h3 : j < off + (i + 1) + r.length
        · rw [if_neg (by omega), if_pos h3, if_pos (by omega), show j - (off + i) = (j - (off + (i + 1))) + 1 by omega]
          simp
        · rw [if_neg (by omega), if_neg h3, if_neg (by omega), if_neg (by omega)]

inductive PartsR (ρ : Pl) : List (Nat × AV) → List (Nat × Value) → Prop
  | nil : PartsR ρ [] []
  | cons {i : Nat} {v : AV} {x : Value} {ps : List (Nat × AV)} {xs : List (Nat × Value)} (hv : VR ρ v x) (h : PartsR ρ ps xs) : PartsR ρ ((i, v) :: ps) ((i, x) :: xs)

theorem fill_sound (place : Nat → Option (Nat × Nat)) : ∀ {ps : List (Nat × AV)} {xs : List (Nat × Value)}, PartsR ρ ps xs → ∀ {cs : List AV} {r : List AV} {ds : Array Value}, afill place cs ps = some r → VRs ρ cs ds.toList →
    (cs.all AV.one = true → r.all AV.one = true) ∧ ∃ ds', Instr.fill place ds xs = some ds' ∧ VRs ρ r ds'.toList := by
  intro ps xs hp
  induction hp with
  | nil => intro cs r ds e hr; simp [afill] at e; subst e; exact ⟨id, ds, rfl, hr⟩
  | @cons i v x ps xs hv _ ih =>
    intro cs r ds e hr
    simp only [afill, Option.bind_eq_some_iff] at e
    obtain ⟨q, hq, e⟩ := e
    split at e
    · rename_i hc
      obtain ⟨hc1, hc2, hc3⟩ := hc
      have hcl := hv.cells.length
      have hdl := hr.length
      simp only [Array.length_toList] at hcl hdl
      have hle : q.1 + v.cells.length ≤ cs.length := by omega
      have hrel : VRs ρ (setSeg cs q.1 v.cells) (x.cells.zipIdx.foldl (fun (cs : Array Value) (p : Value × Nat) => cs.setIfInBounds (q.1 + p.2) p.1) ds).toList := by
        rw [← Array.foldl_toList, Array.toList_zipIdx, fold_set q.1 x.cells.toList 0 ds (by simp; omega)]
        refine VRs.of_get (by simp [setSeg]; omega) fun j u hj => ?_
        rw [setSeg, seg_get cs v.cells q.1 j hle] at hj
        simp only [Nat.add_zero]
        rw [seg_get ds.toList x.cells.toList q.1 j (by simp; omega)]
        split at hj
        · rename_i h1; rw [if_pos h1]; exact hr.get hj
        · rename_i h1; rw [if_neg h1]
          split at hj
          · rename_i h2; rw [if_pos (by simp; omega)]; exact hv.cells.get hj
          · rename_i h2; rw [if_neg (by simp; omega)]; exact hr.get hj
      obtain ⟨ha, ds', h1, h2⟩ := ih e hrel
      refine ⟨fun hall => ha ?_, ds', ?_, h2⟩
      · rw [List.all_eq_true] at hall hc3 ⊢
        intro u hu
        simp only [setSeg, List.mem_append] at hu
        rcases hu with hu | hu | hu
        · exact hall u (List.mem_of_mem_take hu)
        · exact hc3 u hu
        · exact hall u (List.mem_of_mem_drop hu)
      · simp only [Instr.fill, hq]
        rw [if_neg (by simp; omega)]
        exact h1
    · cases e

end Go.AM

/-
  THE OPERATIONS, fourth part (own work): literals, make, append, slicing.
-/
namespace Go.AM
open Go.RowKit
set_option linter.unusedSimpArgs false

variable {c : Ctx} {base : Nat} {w0 w : World} {ρ : Pl} {H : AHeap}

theorem wrap64_id {n : Int} (h0 : -9223372036854775808 ≤ n) (h1 : n ≤ 9223372036854775807) : IntKind.i64.wrap n = n := IntWalk.i64_in n ⟨h0, h1⟩

theorem range0 : Array.range 0 = #[] := by apply Array.ext'; simp

theorem post_drew (h : Rel c base w0 ρ H w) : Post c base w0 ρ H w ρ H w.drew :=
  ⟨⟨h.below.drew, h.size, h.own, h.inj, h.ext, h.glob⟩, Ext.refl _, fun _ _ e => .inl e, Nat.le_refl _, Nat.le_refl _, fun _ _ _ => rfl, fun i o p e s r => .inr ⟨i, o, p, e, s, r, rfl⟩⟩

/-- an object forgotten -/
theorem post_kill (h : Rel c base w0 ρ H w) (i : Nat) (hi : i < H.length) : Post c base w0 ρ H w ρ (H.set i none) w := by
  have hsub : ∀ {j o}, hat (H.set i none) j = some o → hat H j = some o := by
    intro j o e
    rw [hat_set H i none j hi] at e
    split at e
    · cases e
    · exact e
  exact ⟨⟨h.below, h.size, fun j o e => h.own j o (hsub e), fun j k o o' p q e e' => h.inj j k o o' p q (hsub e) (hsub e'), h.ext, h.glob⟩, Ext.refl _, fun _ _ e => .inl e, by simp, Nat.le_refl _, fun _ _ _ => rfl,
    fun j o p e s r => .inr ⟨j, o, p, hsub e, s, r, rfl⟩⟩

/-- an object moved: what lay at i lies in the same block as a new one -/
theorem post_move {w' : World} (h : Rel c base w0 ρ H w) (hf : ρ (.own H.length) = none) {i : Nat} {o o' : AObj} {p p' : Place} (e : hat H i = some o) (s : o.solid = true) (r : ρ (.own i) = some p) (hpp : p'.b = p.b)
    (hos : w'.os = w.os) (htp : w'.tape = w.tape) (hout : w'.output = w.output) (hsz : w'.heap.size = w.heap.size) (hbl : ∀ k, k ≠ p.b → w'.heap[k]? = w.heap[k]?) (ho' : ObjR (upd ρ (.own H.length) p') p' w'.heap o') :
    Post c base w0 ρ H w (upd ρ (.own H.length) p') (hnew (H.set i none) o') w' := by
  have hi := hat_lt e
  have hx : Ext ρ (upd ρ (.own H.length) p') := upd_ext hf
  have hlen : (H.set i none).length = H.length := by simp
  have hbase : base ≤ p.b := by
    obtain ⟨q, hq, _, hb⟩ := h.own i o e
    rw [r] at hq; cases hq; exact hb s
  have hcase : ∀ {j o2}, hat (hnew (H.set i none) o') j = some o2 → (j = H.length ∧ o2 = o') ∨ (j ≠ H.length ∧ j ≠ i ∧ hat H j = some o2) := by
    intro j o2 e2
    rw [hat_new, hlen] at e2
    split at e2
    · rename_i hj; cases e2; exact .inl ⟨hj, rfl⟩
    · rename_i hj
      rw [hat_set H i none j hi] at e2
      split at e2
      · cases e2
      · rename_i hji; exact .inr ⟨hj, hji, e2⟩
  refine ⟨⟨⟨hos.trans h.below.os, htp.trans h.below.tape, hout.trans h.below.output, by rw [hsz]; exact h.below.size, fun k hk => (hbl k (by omega)).trans (h.below.block k hk)⟩, by rw [hsz]; exact h.size, ?_, ?_, ?_, ?_⟩, hx, ?_, by simp [hnew], by omega, ?_, ?_⟩
  · intro j o2 e2
    rcases hcase e2 with ⟨rfl, rfl⟩ | ⟨_, hji, e2⟩
    · exact ⟨p', upd_same _ _ _, ho', fun _ => by omega⟩
    · obtain ⟨q, hq, ho, hb⟩ := h.own j o2 e2
      exact ⟨q, hx _ _ hq, ho.mono hx (fun s2 => hbl _ fun hqp => hji (h.inj j i o2 o q p e2 e s2 s hq r hqp)), hb⟩
  · intro j k o1 o2 q1 q2 e1 e2 s1 s2 r1 r2 hq
    rcases hcase e1 with ⟨rfl, rfl⟩ | ⟨hj, hji, f1⟩ <;> rcases hcase e2 with ⟨rfl, rfl⟩ | ⟨hk, hki, f2⟩
    · rfl
    · rw [upd_same] at r1; cases r1
      rw [upd_ne ρ _ (by simpa using hk)] at r2
      exact absurd (h.inj k i o2 o q2 p f2 e s2 s r2 r (by omega)) hki
    · rw [upd_same] at r2; cases r2
      rw [upd_ne ρ _ (by simpa using hj)] at r1
      exact absurd (h.inj j i o1 o q1 p f1 e s1 s r1 r (by omega)) hji
    · rw [upd_ne ρ _ (by simpa using hj)] at r1
      rw [upd_ne ρ _ (by simpa using hk)] at r2
      exact h.inj j k o1 o2 q1 q2 f1 f2 s1 s2 r1 r2 hq
  · intro path cells hG
    obtain ⟨q, hq, hb, hc⟩ := h.ext path cells hG
    refine ⟨q, hx _ _ hq, hb, fun j v hj => ?_⟩
    obtain ⟨x, hxx, hv, h1⟩ := hc j v hj
    refine ⟨x, ?_, hv.mono hx, h1⟩
    rw [World.cell?_of_block (w := w) (hbl q.b (by omega))]; exact hxx
  · intro g; obtain ⟨n, hn⟩ := h.glob g; exact ⟨n, hx _ _ hn⟩
  · intro l q e2
    by_cases hl : l = .own H.length
    · exact .inr ⟨H.length, hl, Nat.le_refl _, by simp [hnew]⟩
    · rw [upd_ne ρ p' hl] at e2; exact .inl e2
  · intro b hb hn
    exact hbl b fun hbp => hn i o p e s r hbp.symm
  · intro j o2 q e2 s2 r2
    rcases hcase e2 with ⟨rfl, rfl⟩ | ⟨hj, _, e2⟩
    · rw [upd_same] at r2; cases r2; exact .inr ⟨i, o, p, e, s, r, hpp.symm⟩
    · rw [upd_ne ρ _ (by simpa using hj)] at r2
      exact .inr ⟨j, o2, q, e2, s2, r2, rfl⟩

/-! literals -/

theorem mapM_list_run {α β γ : Type} (f : α → Sem β) (g : α → Option γ) (k : γ → β) (hfg : ∀ x y, g x = some y → ∀ w, (f x).run c.P w = .ok (k y) w) : ∀ (l : List α) (r : List γ), mapO g l = some r → ∀ w, (l.mapM f).run c.P w = .ok (r.map k) w
  | [], r, e, w => by simp [mapO] at e; subst e; simp
  | x :: l, r, e, w => by
    simp only [mapO, Option.bind_eq_some_iff, Option.some.injEq] at e
    obtain ⟨y, hy, z, hz, rfl⟩ := e
    simp [List.mapM_cons, hfg x y hy, mapM_list_run f g k hfg l z hz]

theorem build_sound {t : TypeId} {ps : List (Nat × AV)} {v : AV} (e : abuild c t ps = some v) {xs : Array (Nat × Value)} (hp : PartsR ρ ps xs.toList) (w : World) :
    ∃ y, (Instr.build t xs).run c.P w = .ok y w ∧ VR ρ v y := by
  simp only [abuild, Option.bind_eq_some_iff] at e
  obtain ⟨z, hz, d, hd, e⟩ := e
  obtain ⟨zz, hzz, hv⟩ := zeroCells_run (c := c) (ρ := ρ) hz w
  split at e
  · rename_i fs
    simp only [Option.bind_eq_some_iff, Option.map_eq_some_iff] at e
    obtain ⟨pl, hpl, r, hr, rfl⟩ := e
    obtain ⟨_, ds', h1, h2⟩ := fill_sound (fun i => pl[i]?) hp hr hv
    refine ⟨.agg ds', ?_, ds'.toList, h2, by simp⟩
    have hm : (fs.mapM fun (f : Field) => (do pure (f.offset, ← sizeOf f.type) : Sem (Nat × Nat))).run c.P w = .ok pl.toArray w := by
      rw [Array.mapM_eq_mapM_toList, Sem.run_map, mapM_list_run _ (fun f : Field => (szOf c.P f.type).map fun n => (f.offset, n)) id (fun f y hy w => by
        simp only [Option.map_eq_some_iff] at hy
        obtain ⟨n, hn, rfl⟩ := hy
        simp [szOf_run hn]) fs.toList pl hpl]
      simp
    have hfun : (fun (i : Nat) => pl.toArray[i]?) = fun (i : Nat) => pl[i]? := by funext i; simp
    simp only [Instr.build, Sem.run_bind, hzz, Result.andThen_ok, run_underlying hd, hm]
    rw [show (fun (x : Nat) => pl.toArray[x]?) = fun (i : Nat) => pl[i]? from hfun, h1]
    rfl
  · rename_i n el
    simp only [Option.bind_eq_some_iff, Option.map_eq_some_iff] at e
    obtain ⟨sz, hsz, r, hr, rfl⟩ := e
    obtain ⟨_, ds', h1, h2⟩ := fill_sound (fun i => some (i * sz, sz)) hp hr hv
    refine ⟨.agg ds', ?_, ds'.toList, h2, by simp⟩
    simp only [Instr.build, Sem.run_bind, hzz, Result.andThen_ok, run_underlying hd, szOf_run hsz, h1]
    rfl
  · cases e

theorem reps_length (n : Nat) (z : List AV) : (reps n z).length = n * z.length := by
  induction n with
  | zero => simp [reps]
  | succ n ih => simp [reps, ih, Nat.add_mul, Nat.add_comm]

theorem reps_get (n : Nat) (z : List AV) (_hz : 0 < z.length) (j : Nat) (hj : j < n * z.length) : (reps n z)[j]? = z[j % z.length]? := by
  induction n generalizing j with
  | zero => simp at hj
  | succ n ih =>
    simp only [reps]
    by_cases h : j < z.length
    · rw [List.getElem?_append_left h, Nat.mod_eq_of_lt h]
    · rw [List.getElem?_append_right (by omega), ih (j - z.length) (by rw [Nat.add_mul] at hj; omega)]
      congr 1
      exact (Nat.mod_eq_sub_mod (by omega)).symm

/-- zero elements as 'make' lays them -/
theorem reps_sound {z : List AV} {zz : Array Value} (hv : VRs ρ z zz.toList) (hz : 0 < z.length) (n : Nat) : VRs ρ (reps n z) ((Array.range (n * z.length)).map (zz[· % zz.size]!)).toList := by
  have hl := hv.length
  simp only [Array.length_toList] at hl
  refine VRs.of_get (by simp [reps_length]) fun j v hj => ?_
  have hlt : j < n * z.length := by
    rw [← reps_length]; exact (List.getElem?_eq_some_iff.1 hj).1
  rw [reps_get n z hz j hlt] at hj
  obtain ⟨x, hx, hr⟩ := hv.get hj
  refine ⟨x, ?_, hr⟩
  simp only [Array.toList_map, Array.toList_range, List.getElem?_map, List.getElem?_range hlt, Option.map_some, hl]
  have : j % z.length < zz.size := by rw [hl]; exact Nat.mod_lt _ hz
  rw [getElem!_pos zz (j % z.length) this]
  simp at hx
  rw [Array.getElem?_eq_getElem this] at hx
  exact hx

theorem reps_one {z : List AV} (h : z.all AV.one = true) (n : Nat) : (reps n z).all AV.one = true := by
  induction n with
  | zero => rfl
  | succ n ih => simp only [reps, List.all_append, h, ih, Bool.and_self]

theorem afill_length {place : Nat → Option (Nat × Nat)} : ∀ {ps : List (Nat × AV)} {cs r : List AV}, afill place cs ps = some r → r.length = cs.length
  | [], cs, r, e => by simp [afill] at e; subst e; rfl
  | (i, v) :: ps, cs, r, e => by
    simp only [afill, Option.bind_eq_some_iff] at e
    obtain ⟨q, hq, e⟩ := e
    split at e
    · rename_i hc
      rw [afill_length e, setSeg_length cs q.1 v.cells (by omega)]
    · cases e

theorem buildSlice_sound (h : Rel c base w0 ρ H w) {t : TypeId} {len : Nat} {ps : List (Nat × AV)} {v : AV} {H' : AHeap} (e : abuildSlice c H t len ps = some (v, H')) (hf : ρ (.own H.length) = none) {xs : Array (Nat × Value)} (hp : PartsR ρ ps xs.toList) :
    ∃ ρ' x w', (Instr.buildSlice t len xs).run c.P w = .ok x w' ∧ VR ρ' v x ∧ Post c base w0 ρ H w ρ' H' w' := by
  simp only [abuildSlice, Option.bind_eq_some_iff] at e
  obtain ⟨d, hd, e⟩ := e
  split at e
  · rename_i el
    simp only [Option.bind_eq_some_iff] at e
    obtain ⟨n, hn, z, hz, e⟩ := e
    obtain ⟨zz, hzz, hv⟩ := zeroCells_run (c := c) (ρ := ρ) hz w
    split at e
    · rename_i hc
      obtain ⟨hc1, hc2, hc3, hc4, hc5⟩ := hc
      simp only [Option.map_eq_some_iff, Prod.mk.injEq] at e
      obtain ⟨cs, hcs, rfl, rfl⟩ := e
      have hr := reps_sound hv (by omega) len
      rw [hc2] at hr
      obtain ⟨ha, ds, h1, h2⟩ := fill_sound (fun i => some (i * n, n)) hp hcs hr
      have hlen := afill_length hcs
      rw [reps_length, hc2] at hlen
      have hdl := h2.length
      simp only [Array.length_toList] at hdl
      have hne : ¬ len * n = 0 := by
        have := Nat.mul_pos hc4 hc3; omega
      have hpost := new_row (ty := el) (esz := n) (cap := len) h hf h2 (ha (reps_one hc5 len)) (ds := ds) (fun j x hx => by simpa using hx) (by omega) (by omega)
      refine ⟨_, .slice (some ⟨w.heap.size, 0, none⟩) len len, w.alloc (.cells ds el), ?_, ⟨⟨w.heap.size, 0, len⟩, upd_same _ _ _, by simp, by simp⟩, hpost⟩
      simp only [Instr.buildSlice, Sem.run_bind, run_underlying hd, szOf_run hn, Result.andThen_ok]
      rw [if_neg (by omega), if_neg hne]
      simp only [Sem.run_bind, hzz, Result.andThen_ok, Sem.run_pure, h1]
      simp [newRow]
    · split at e
      · rename_i hc
        obtain ⟨rfl, rfl, hn0⟩ := hc
        cases e
        have hx0 : xs = #[] := by
          cases hp' : xs.toList with
          | nil => exact Array.toList_eq_nil_iff.1 hp'
          | cons a b => rw [hp'] at hp; cases hp
        subst hx0
        have hpost := new_row (ty := el) (esz := n) (cap := 0) (cs := []) (xs := []) h hf rfl rfl (ds := #[]) (fun j x hx => by simp at hx) (by simp) (by simp)
        refine ⟨_, .slice (some ⟨w.heap.size, 0, none⟩) 0 0, w.alloc (.cells #[] el), ?_, ⟨⟨w.heap.size, 0, 0⟩, upd_same _ _ _, by simp, by simp⟩, hpost⟩
        simp [Instr.buildSlice, run_underlying hd, szOf_run hn, Instr.fill, newRow, range0]
      · cases e
  · cases e

theorem makeSlice_sound (h : Rel c base w0 ρ H w) {t : TypeId} {a b v : AV} {H' : AHeap} (e : amakeSlice c H t a b = some (v, H')) (hf : ρ (.own H.length) = none) {x y : Value} (hx : VR ρ a x) (hy : VR ρ b y) :
    ∃ ρ' u w', (Instr.makeSlice t x y).run c.P w = .ok u w' ∧ VR ρ' v u ∧ Post c base w0 ρ H w ρ' H' w' := by
  unfold amakeSlice at e
  split at e
  · rename_i k1 l k2 m
    simp only [VR] at hx hy; subst hx hy
    simp only [Option.bind_eq_some_iff] at e
    obtain ⟨d, hd, e⟩ := e
    split at e
    · rename_i el
      simp only [Option.bind_eq_some_iff] at e
      obtain ⟨i, hi, z, hz, e⟩ := e
      obtain ⟨zz, hzz, hv⟩ := zeroCells_run (c := c) (ρ := ρ) hz (w := w)
      split at e
      · rename_i hc
        obtain ⟨hc1, hc2, hc3, hc4, hc5, hc6, hc7⟩ := hc
        cases e
        have hwl : IntKind.i64.wrap l = l := wrap64_id (by omega) (by omega)
        have hwm : IntKind.i64.wrap m = m := wrap64_id (by omega) (by omega)
        have hr := reps_sound hv (by omega) m.toNat
        rw [hc5] at hr
        have hpost := new_row (ty := el) (esz := i.size) (cap := m.toNat) h hf hr (reps_one hc7 m.toNat) (ds := (Array.range (m.toNat * i.size)).map (zz.cells[· % zz.cells.size]!)) (fun j x hx => by rw [← Array.getElem?_toList]; exact hx) (by simp) (by rw [reps_length, hc5]; omega)
        refine ⟨_, .slice (some ⟨w.heap.size, 0, none⟩) l.toNat m.toNat, w.alloc (.cells ((Array.range (m.toNat * i.size)).map (zz.cells[· % zz.cells.size]!)) el), ?_, ⟨⟨w.heap.size, 0, m.toNat⟩, upd_same _ _ _, by simp; omega, by simp⟩, hpost⟩
        have hb : ¬ ((i.bytes : Int) * m > 2 ^ 48) := by omega
        have htl : (decide (m < 0) || decide ((i.bytes : Int) * m > 2 ^ 48)) = false := by simp; omega
        simp only [Instr.makeSlice, Sem.run_bind, run_underlying hd, asInt, asIntOf, Sem.run_pure, Result.andThen_ok, info_run hi, hwl, hwm, htl, Bool.false_or]
        have hcond : (decide (l < 0) || decide (l > m)) = false := by simp; omega
        rw [if_neg (by rw [hcond]; simp)]
        simp only [Sem.run_bind, run_askRoom, Result.andThen_ok, sizeOf, info_run hi, Sem.run_pure]
        by_cases hm0 : m.toNat * i.size = 0
        · simp [hm0, newRow, range0]
        · rw [if_neg hm0]
          simp [hzz, newRow]
      · cases e
    · cases e
  · cases e

end Go.AM

/-
  THE OPERATIONS, fifth part (own work): append, copy, clear, slicing, maps written.
-/
namespace Go.AM
open Go.RowKit
set_option linter.unusedSimpArgs false

variable {c : Ctx} {base : Nat} {w0 w : World} {ρ : Pl} {H : AHeap}

theorem bytes_one (s : List UInt8) : (bytesAV s).all AV.one = true := by
  simp [bytesAV, AV.one]

theorem VRs_bytes (s : List UInt8) : VRs ρ (bytesAV s) (s.map fun b => .int .u8 b.toNat) := by
  induction s with
  | nil => rfl
  | cons b r ih => exact ⟨_, _, rfl, rfl, ih⟩

/-- what is appended or copied, read -/
theorem source_sound (h : Rel c base w0 ρ H w) {esz n : Nat} {x : AV} {cs : List AV} (e : source c H esz x = some (n, cs)) {y : Value} (hy : VR ρ x y) :
    (Builtin.lenOf y).run c.P w = .ok n w ∧ cs.length = n * esz ∧ cs.all AV.one = true ∧ ∃ xs, VRs ρ cs xs ∧ ∀ w', (∀ a, w'.cell? a = w.cell? a) → ∀ m, m ≤ n → (Builtin.firstCells esz m y).run c.P w' = .ok (xs.take (m * esz)).toArray w' := by
  unfold source at e
  split at e
  · cases e; simp only [VR] at hy; subst hy
    exact ⟨by simp [Builtin.lenOf], by simp, rfl, [], rfl, fun w' _ m hm => by simp [Builtin.firstCells]⟩
  · rename_i s
    split at e
    · rename_i h1
      cases e; simp only [VR] at hy; subst hy
      refine ⟨by simp [Builtin.lenOf, ByteArray.size], by simp [bytesAV, h1], bytes_one s, _, VRs_bytes s, fun w' _ m hm => ?_⟩
      have hd : ((⟨s.toArray⟩ : ByteArray).extract 0 m).data = (s.take m).toArray := by
        apply Array.ext'
        simp [ByteArray.data_extract, List.extract_eq_take_drop]
      simp only [Builtin.firstCells, hd]
      rw [h1, Nat.mul_one]
      simp
    · cases e
  · cases e; simp only [VR] at hy; subst hy
    exact ⟨by simp [Builtin.lenOf], by simp, rfl, [], rfl, fun w' _ m hm => by
      obtain rfl : m = 0 := by omega
      simp [Builtin.firstCells, loadCells, loadCellsFrom]⟩
  · rename_i l e' start k
    obtain ⟨p, hp, hcap, rfl⟩ := hy
    split at e
    · rename_i he
      subst he
      split at e
      · rename_i hk
        cases e
        exact ⟨by simp [Builtin.lenOf, hk], by simp, rfl, [], rfl, fun w' _ m hm => by
          obtain rfl : m = 0 := by omega
          simp [Builtin.firstCells, loadCells, loadCellsFrom]⟩
      · rename_i hk
        simp only [Option.map_eq_some_iff, Prod.mk.injEq] at e
        obtain ⟨vs, hvs, rfl, rfl⟩ := e
        obtain ⟨xs, hl, hr, hc, h1⟩ := rd_sound h hvs hp
        refine ⟨by simp [Builtin.lenOf], by rw [← hr.length, hl], h1, xs, hr, fun w' hw' m hm => ?_⟩
        have hlen : (xs.take (m * e')).length = m * e' := by
          rw [List.length_take, hl]; exact Nat.min_eq_left (Nat.mul_le_mul_right _ hm)
        have := run_loadCells_list (P := c.P) w' ⟨p.b, p.off + start * e', none⟩ (xs.take (m * e')) (fun j v hj => (hw' _).trans (hc j v (by
          rw [List.getElem?_take] at hj
          split at hj
          · exact hj
          · cases hj)))
        rw [hlen] at this
        simpa [Builtin.firstCells] using this
    · cases e
  · cases e

theorem zeroCells_size {z : List AV} {zz : Array Value} (hv : VRs ρ z zz.toList) : zz.size = z.length := by simpa using hv.length

theorem zeroCells_count (zz : Array Value) (n : Nat) : (Builtin.zeroCells zz n).size = n * zz.size := by simp [Builtin.zeroCells]

/-- the element type of what is appended to is no whole number -/
theorem append_new (h : Rel c base w0 ρ H w) (hf : ρ (.own H.length) = none) {st e : TypeId} {i : TypeInfo} (hd : c.P.underlying st = some (.slice e)) (hi : c.P.info? e = some i) {z : List AV} (hz : zeroCells c.P e = some z) (hzl : z.length = i.size) (hb : 0 < i.bytes)
    {s x : Value} {bs : Option Addr} {sLen sCap n : Nat} (hs : s = .slice bs sLen sCap) {old new : List AV} {xo xn : List Value} (ho : VRs ρ old xo) (hn : VRs ρ new xn) (ho1 : old.all AV.one = true) (hn1 : new.all AV.one = true)
    (hol : old.length = sLen * i.size) (hnl : new.length = n * i.size) (hlen : (Builtin.lenOf x).run c.P w = .ok n w) (hfo : ∀ w', (∀ a, w'.cell? a = w.cell? a) → (Builtin.firstCells i.size sLen s).run c.P w' = .ok xo.toArray w')
    (hfn : ∀ w', (∀ a, w'.cell? a = w.cell? a) → (Builtin.firstCells i.size n x).run c.P w' = .ok xn.toArray w') (hgt : sCap < sLen + n) (hroom : (sLen + n) * i.bytes ≤ 2 ^ 47) (ts : Array TypeId) (t2 : TypeId) (ty : TypeId) (hts0 : ts[0]? = some st) (hts1 : ts[1]? = some t2) {d2 : TypeDesc} (hd2 : c.P.underlying t2 = some d2) (hnint : ∀ k, d2 ≠ .int k) :
    ∃ ρ' y w', (Builtin.append_ ts ty #[s, x]).run c.P w = .ok y w' ∧ VR ρ' (.slice (fresh H) i.size 0 (sLen + n)) y ∧ Post c base w0 ρ H w ρ' (hnew H (.row e i.size (old ++ new))) w' := by
  subst hs
  obtain ⟨zz, hzz, hv⟩ := zeroCells_run (c := c) (ρ := ρ) hz (w := w)
  have hzs := zeroCells_size hv
  have hneed : ¬ sLen + n ≤ sCap := by omega
  have hsmall : sLen + n ≤ 2 ^ 47 := Nat.le_trans (Nat.le_mul_of_pos_right _ hb) hroom
  have hmax : ¬ (((sLen + n : Nat) : Int) > IntKind.i64.max) := by
    rw [show IntKind.i64.max = 9223372036854775807 from by decide]; omega
  have hcapb : ¬ Builtin.nextslicecap (sLen + n) sCap * i.bytes > 2 ^ 48 := by
    have := nextslicecap_le hgt
    have h2 : Builtin.nextslicecap (sLen + n) sCap * i.bytes ≤ 2 * (sLen + n) * i.bytes := Nat.mul_le_mul_right _ this
    have h3 : 2 * (sLen + n) * i.bytes = 2 * ((sLen + n) * i.bytes) := by rw [Nat.mul_assoc]
    omega
  generalize hq : (Question.appendCap (sLen + n) sCap e).cut (w.tape w.drawn (.appendCap (sLen + n) sCap e)) = newCap
  have hcap : sLen + n ≤ newCap := by rw [← hq]; simp only [Question.cut]; omega
  have hzz' : (zeroValue e).run c.P w.drew = .ok zz w.drew := by
    have := hzz
    simp only [zeroValue, Sem.run_bind, typeInfo, run_program, Result.andThen_ok, hi, Sem.run_pure] at this ⊢
    split at this <;> simp_all
  have hrun : (Builtin.append_ ts ty #[.slice bs sLen sCap, x]).run c.P w = .ok (.slice (some ⟨w.heap.size, 0, none⟩) (sLen + n) newCap) (w.drew.alloc (.cells (xo.toArray ++ xn.toArray ++ Builtin.zeroCells zz.cells (newCap - (sLen + n))) e)) := by
    have hnz : (match d2 with | .int _ => true | _ => false) = false := by cases d2 <;> first | rfl | exact absurd rfl (hnint _)
    have hf1 := hfo w.drew (fun a => rfl)
    have hf2 := hfn w.drew (fun a => rfl)
    simp only [Builtin.append_, hts0, hts1, List.getElem?_toArray, List.getElem?_cons_zero, List.getElem?_cons_succ, Sem.run_bind, run_underlying hd, run_underlying hd2, Result.andThen_ok, sizeOf, info_run hi, Sem.run_pure, hnz, Bool.false_eq_true, if_false, hlen, if_neg hneed, false_or, if_neg (not_and.2 fun h => absurd h hmax), if_neg hcapb, run_choose, Question.forced, hq, World.drew_eq, run_askRoom, hf1, Bool.not_false, if_true, hf2, hzz', newRow, run_newObj, World.alloc_eq, World.size_drew]
  have hp := post_drew h
  have hpost := new_row (ty := e) (esz := i.size) (cap := newCap) hp.rel hf (ho.append hn) (by rw [List.all_append, ho1, hn1]; rfl) (ds := xo.toArray ++ xn.toArray ++ Builtin.zeroCells zz.cells (newCap - (sLen + n))) (fun j y hj => by
      rw [Array.getElem?_append_left (by have := (List.getElem?_eq_some_iff.1 hj).1; simpa using this)]
      simpa using hj) (by
      have h1 := ho.length
      have h2 := hn.length
      simp only [Array.size_append, List.size_toArray, zeroCells_count, hzs]
      rw [h1, h2, hol, hnl, hzl, ← Nat.add_mul, ← Nat.add_mul]
      exact Nat.mul_le_mul_right _ (by omega)) (by
      rw [List.length_append, hol, hnl, ← Nat.add_mul]; exact Nat.mul_le_mul_right _ hcap)
  exact ⟨_, _, _, hrun, ⟨⟨w.drew.heap.size, 0, newCap⟩, upd_same _ _ _, by simpa using hcap, by simp⟩, hp.trans hpost⟩

theorem append_keep {st e t2 ty : TypeId} {i : TypeInfo} (hd : c.P.underlying st = some (.slice e)) (hi : c.P.info? e = some i) {bs : Option Addr} {sLen sCap n : Nat} {x : Value} {w : World} {xs : Array Value} (hlen : (Builtin.lenOf x).run c.P w = .ok n w)
    (hfx : (Builtin.firstCells i.size n x).run c.P w = .ok xs w) (hle : sLen + n ≤ sCap) (ts : Array TypeId) (hts0 : ts[0]? = some st) (hts1 : ts[1]? = some t2) {d2 : TypeDesc} (hd2 : c.P.underlying t2 = some d2) (hnint : ∀ k, d2 ≠ .int k) {w' : World}
    (hst : ∀ a, bs = some a → (storeCells (a.add (sLen * i.size)) xs.toList).run c.P w = .ok () w') (hno : bs = none → w' = w) :
    (Builtin.append_ ts ty #[.slice bs sLen sCap, x]).run c.P w = .ok (.slice bs (sLen + n) sCap) w' := by
  have hnz : (match d2 with | .int _ => true | _ => false) = false := by cases d2 <;> first | rfl | exact absurd rfl (hnint _)
  simp only [Builtin.append_, hts0, hts1, List.getElem?_toArray, List.getElem?_cons_zero, List.getElem?_cons_succ, Sem.run_bind, run_underlying hd, run_underlying hd2, Result.andThen_ok, sizeOf, info_run hi, Sem.run_pure, hnz, Bool.false_eq_true, if_false, hlen, if_pos hle, Bool.not_false, if_true, hfx]
  cases bs with
  | none => rw [hno rfl]; rfl
  | some a => simp only [Sem.run_bind, hst a rfl, Result.andThen_ok, Sem.run_pure]

theorem append_sound (h : Rel c base w0 ρ H w) {H' : AHeap} (hff : H.length < H'.length → ρ (.own H.length) = none) {st t2 ty : TypeId} {s x v : AV} (e : aappend c H st s x = some (v, H')) {y z : Value} (hy : VR ρ s y) (hz : VR ρ x z)
    (ts : Array TypeId) (hts0 : ts[0]? = some st) (hts1 : ts[1]? = some t2) {d2 : TypeDesc} (hd2 : c.P.underlying t2 = some d2) (hnint : ∀ k, d2 ≠ .int k) :
    ∃ ρ' u w', (Builtin.append_ ts ty #[y, z]).run c.P w = .ok u w' ∧ VR ρ' v u ∧ Post c base w0 ρ H w ρ' H' w' := by
  simp only [aappend, Option.bind_eq_some_iff] at e
  obtain ⟨d, hd, e⟩ := e
  split at e
  · rename_i el
    simp only [Option.bind_eq_some_iff] at e
    obtain ⟨i, hi, zc, hzc, e⟩ := e
    split at e
    · rename_i hpos
      obtain ⟨hsz, hby, hzl⟩ := hpos
      simp only [Option.bind_eq_some_iff] at e
      obtain ⟨⟨n, cs⟩, hsrc, e⟩ := e
      obtain ⟨hlen, hcl, hc1, xs, hr, hfc⟩ := source_sound h hsrc hz
      have hxl : xs.length = n * i.size := by rw [hr.length, hcl]
      have hfull : ∀ w', (∀ a, w'.cell? a = w.cell? a) → (Builtin.firstCells i.size n z).run c.P w' = .ok xs.toArray w' := fun w' hw' => by
        have := hfc w' hw' n (Nat.le_refl _)
        rwa [← hxl, List.take_length] at this
      split at e
      · rename_i hn0
        subst hn0
        obtain rfl : xs = [] := List.eq_nil_of_length_eq_zero (by simpa using hxl)
        split at e
        · cases e; simp only [VR] at hy; subst hy
          exact ⟨ρ, _, w, append_keep hd hi hlen (hfull w fun _ => rfl) (Nat.le_refl _) ts hts0 hts1 hd2 hnint (fun a ha => by cases ha) (fun _ => rfl), rfl, Post.refl h⟩
        · rename_i l esz start len
          cases e
          obtain ⟨p, hp, hcap, rfl⟩ := hy
          exact ⟨ρ, _, w, append_keep hd hi hlen (hfull w fun _ => rfl) (by omega) ts hts0 hts1 hd2 hnint (fun a ha => rfl) (fun ha => by cases ha), ⟨p, hp, hcap, rfl⟩, Post.refl h⟩
        · cases e
      · rename_i hn0
        split at e
        · split at e
          · rename_i hb
            cases e; simp only [VR] at hy; subst hy
            have hf := hff (by simp [hnew])
            obtain ⟨ρ', u, w', h1, h2, h3⟩ := append_new h hf hd hi hzc hzl hby (s := .slice none 0 0) (sLen := 0) (sCap := 0) (old := []) (new := cs) (xo := []) (xn := xs) rfl rfl hr rfl hc1 (by simp) hcl hlen
              (fun w' _ => by simp [Builtin.firstCells]) hfull (by omega) (by rw [Nat.zero_add]; exact hb.1) ts t2 ty hts0 hts1 hd2 hnint
            rw [Nat.zero_add] at h2
            exact ⟨ρ', u, w', h1, h2, by simpa using h3⟩
          · cases e
        · rename_i b esz start len
          split at e
          · rename_i hee
            obtain ⟨rfl, _⟩ := hee
            obtain ⟨p, hp, hcap, rfl⟩ := hy
            split at e
            · rename_i ty' esz' old ho
              obtain ⟨q, hq, hobj, hbb⟩ := h.own b _ ho
              obtain rfl : p = q := by rw [hp] at hq; exact Option.some.inj hq
              obtain ⟨ds, g1, g2, g3, g4⟩ := hobj
              split at e
              · rename_i hcond
                obtain ⟨rfl, rfl, hseg⟩ := hcond
                have hadd : ∀ k, (⟨p.b, p.off + start * i.size, none⟩ : Addr).add k = ⟨p.b, p.off + (start * i.size + k), none⟩ := fun k => by rw [addr_add, Nat.add_assoc]
                split at e
                · rename_i hfit
                  cases e
                  have hcapn : start + len + n ≤ p.cap := by
                    have : (start + len + n) * i.size ≤ p.cap * i.size := Nat.le_trans hfit g3
                    exact Nat.le_of_mul_le_mul_right this hsz
                  have hwr : wr H (.own b) ((start + len) * i.size) cs = some (H.set b (some (.row ty' i.size (setSeg old ((start + len) * i.size) cs)))) := by
                    simp only [wr, ho]
                    rw [if_pos ⟨by rw [hcl, ← Nat.add_mul]; exact hfit, hc1⟩]
                  obtain ⟨w', hw', hpost⟩ := wr_sound h hwr hp hr
                  refine ⟨ρ, _, w', append_keep hd hi hlen (hfull w fun _ => rfl) (by omega) ts hts0 hts1 hd2 hnint (fun a ha => ?_) (fun ha => by cases ha), ⟨p, hp, by omega, rfl⟩, hpost⟩
                  cases ha
                  rw [hadd, ← Nat.add_mul]
                  exact hw'
                · rename_i hfit
                  split at e
                  · rename_i hroom
                    cases e
                    have hf := hff (by simp [hnew])
                    have hseg' : start * i.size + len * i.size ≤ old.length := by rw [← Nat.add_mul]; exact hseg
                    have hol : ((old.drop (start * i.size)).take (len * i.size)).length = len * i.size := by
                      rw [List.length_take, List.length_drop]; omega
                    have hrd : rd c H (.own b) (start * i.size) (len * i.size) = some ((old.drop (start * i.size)).take (len * i.size)) := by
                      simp only [rd, rowOf, ho, Option.bind_some]
                      rw [if_pos hseg']
                    obtain ⟨xo, hxol, hxor, hxoc, hxo1⟩ := rd_sound h hrd hp
                    by_cases hin : len + n ≤ p.cap - start
                    · -- it stays where it is
                      have hfitw : p.off + (start + len) * i.size + xs.length ≤ ds.size := by
                        have h1 : (start + len + n) * i.size ≤ p.cap * i.size := Nat.mul_le_mul_right _ (by omega)
                        rw [Nat.add_mul] at h1
                        omega
                      have hrun := run_storeCells_at (P := c.P) p.b (p.off + (start + len) * i.size) ty' xs 0 ds w g1 (by omega) (all_one_sound hr hc1)
                      generalize hw' : w.setRow p.b (ds.toList.take (p.off + (start + len) * i.size + 0) ++ xs ++ ds.toList.drop (p.off + (start + len) * i.size + 0 + xs.length)).toArray = w' at hrun
                      refine ⟨upd ρ (.own H.length) ⟨p.b, p.off + start * i.size, p.cap - start⟩, _, w', append_keep hd hi hlen (hfull w fun _ => rfl) hin ts hts0 hts1 hd2 hnint (fun a ha => ?_) (fun ha => by cases ha), ⟨⟨p.b, p.off + start * i.size, p.cap - start⟩, upd_same _ _ _, by simpa using hin, by simp⟩, ?_⟩
                      · cases ha
                        rw [hadd, ← Nat.add_mul]
                        exact hrun
                      · subst hw'
                        refine post_move h hf ho rfl hp rfl rfl rfl rfl (by simp) (fun k hk => setRow_other w p.b k _ hk) ?_
                        have hpc : (p.cap - start) * i.size + start * i.size = p.cap * i.size := by
                          rw [← Nat.add_mul]; congr 1; omega
                        refine ⟨_, setRow_heap w p.b ds _ ty' (0, 0) g1, ?_, ?_, fun j u hj => ?_⟩
                        · simp; omega
                        · rw [List.length_append, hol, hcl, ← Nat.add_mul]; exact Nat.mul_le_mul_right _ hin
                        · dsimp only at hj ⊢
                          rw [List.getElem?_toArray, List.append_assoc, Nat.add_zero, seg_get ds.toList xs (p.off + (start + len) * i.size) _ (by simpa using hfitw)]
                          have hsl : (start + len) * i.size = start * i.size + len * i.size := Nat.add_mul _ _ _
                          by_cases hjl : j < len * i.size
                          · rw [List.getElem?_append_left (by omega), List.getElem?_take, if_pos hjl, List.getElem?_drop] at hj
                            rw [if_pos (by omega)]
                            obtain ⟨x', hx', hv', h1'⟩ := g4 _ u hj
                            exact ⟨x', by simpa [Nat.add_assoc] using hx', hv'.mono (upd_ext hf), h1'⟩
                          · rw [List.getElem?_append_right (by omega), hol] at hj
                            have hjn : j - len * i.size < n * i.size := by
                              have := (List.getElem?_eq_some_iff.1 hj).1; omega
                            rw [if_neg (by omega), if_pos (by omega)]
                            obtain ⟨x', hx', hv'⟩ := hr.get hj
                            refine ⟨x', by rw [show p.off + start * i.size + j - (p.off + (start + len) * i.size) = j - len * i.size by omega]; exact hx', hv'.mono (upd_ext hf), ?_⟩
                            exact List.all_eq_true.1 hc1 u (List.mem_of_getElem? hj)
                    · -- it moves into a new block
                      have hk := post_kill h b (hat_lt ho)
                      have hkl : (H.set b none).length = H.length := by simp
                      obtain ⟨ρ', u, w', h1, h2, h3⟩ := append_new hk.rel (by rw [hkl]; exact hf) hd hi hzc hzl hby (s := .slice (some ⟨p.b, p.off + start * i.size, none⟩) len (p.cap - start)) (sLen := len) (sCap := p.cap - start) (n := n) rfl hxor hr hxo1 hc1 hol hcl hlen
                        (fun w' hw' => by
                          have := run_loadCells_list (P := c.P) w' ⟨p.b, p.off + start * i.size, none⟩ xo (fun j v hj => (hw' _).trans (hxoc j v hj))
                          rw [hxol] at this
                          simpa [Builtin.firstCells] using this) hfull (by omega) hroom ts t2 ty hts0 hts1 hd2 hnint
                      exact ⟨ρ', u, w', h1, by simpa [fresh] using h2, hk.trans h3⟩
                  · cases e
              · cases e
            · rename_i ho
              split at e
              · rename_i hcond
                obtain ⟨rfl, rfl, hroom⟩ := hcond
                cases e
                have hf := hff (by simp [hnew])
                obtain ⟨q, hq, hobj, _⟩ := h.own b _ ho
                obtain rfl : p = q := by rw [hp] at hq; exact Option.some.inj hq
                have hc0 : p.cap = 0 := hobj rfl
                obtain ⟨ρ', u, w', h1, h2, h3⟩ := append_new h hf hd hi hzc hzl hby (s := .slice (some ⟨p.b, p.off + 0 * i.size, none⟩) 0 (p.cap - 0)) (sLen := 0) (sCap := p.cap - 0) (old := []) (new := cs) (xo := []) (xn := xs) rfl rfl hr rfl hc1 (by simp) hcl hlen
                  (fun w' _ => by simp [Builtin.firstCells, loadCells, loadCellsFrom]) hfull (by omega) (by rw [Nat.zero_add]; exact hroom) ts t2 ty hts0 hts1 hd2 hnint
                rw [Nat.zero_add] at h2
                exact ⟨ρ', u, w', h1, h2, by simpa using h3⟩
              · cases e
            · cases e
          · cases e
        · cases e
    · cases e
  · cases e

end Go.AM

/-
  THE OPERATIONS, sixth part (own work): slicing, maps written, copy, clear, the least and the greatest.
-/
namespace Go.AM
open Go.RowKit
set_option linter.unusedSimpArgs false

variable {c : Ctx} {base : Nat} {w0 w : World} {ρ : Pl} {H : AHeap}

/-- an empty slice's own object -/
theorem post_empty (h : Rel c base w0 ρ H w) (hf : ρ (.own H.length) = none) (c0 : Bool) (p : Place) (hc : c0 = true → p.cap = 0) : Post c base w0 ρ H w (upd ρ (.own H.length) p) (hnew H (.empty c0)) w := by
  have hx : Ext ρ (upd ρ (.own H.length) p) := upd_ext hf
  have hcase : ∀ {j o2}, hat (hnew H (.empty c0)) j = some o2 → (j = H.length ∧ o2 = .empty c0) ∨ (j ≠ H.length ∧ hat H j = some o2) := by
    intro j o2 e2
    rw [hat_new] at e2
    split at e2
    · rename_i hj; cases e2; exact .inl ⟨hj, rfl⟩
    · rename_i hj; exact .inr ⟨hj, e2⟩
  refine ⟨⟨h.below, h.size, ?_, ?_, ?_, ?_⟩, hx, ?_, by simp [hnew], Nat.le_refl _, fun _ _ _ => rfl, ?_⟩
  · intro j o2 e2
    rcases hcase e2 with ⟨rfl, rfl⟩ | ⟨_, e2⟩
    · exact ⟨p, upd_same _ _ _, hc, fun s => by cases s⟩
    · obtain ⟨q, hq, ho, hb⟩ := h.own j o2 e2
      exact ⟨q, hx _ _ hq, ho.mono hx (fun _ => rfl), hb⟩
  · intro j k o1 o2 q1 q2 e1 e2 s1 s2 r1 r2 hq
    rcases hcase e1 with ⟨rfl, rfl⟩ | ⟨hj, f1⟩
    · cases s1
    · rcases hcase e2 with ⟨rfl, rfl⟩ | ⟨hk, f2⟩
      · cases s2
      · rw [upd_ne ρ _ (by simpa using hj)] at r1
        rw [upd_ne ρ _ (by simpa using hk)] at r2
        exact h.inj j k o1 o2 q1 q2 f1 f2 s1 s2 r1 r2 hq
  · intro path cells hG
    obtain ⟨q, hq, hb, hcc⟩ := h.ext path cells hG
    exact ⟨q, hx _ _ hq, hb, fun j v hj => by obtain ⟨x, h1, h2, h3⟩ := hcc j v hj; exact ⟨x, h1, h2.mono hx, h3⟩⟩
  · intro g; obtain ⟨n, hn⟩ := h.glob g; exact ⟨n, hx _ _ hn⟩
  · intro l q e2
    by_cases hl : l = .own H.length
    · exact .inr ⟨H.length, hl, Nat.le_refl _, by simp [hnew]⟩
    · rw [upd_ne ρ p hl] at e2; exact .inl e2
  · intro j o2 q e2 s2 r2
    rcases hcase e2 with ⟨rfl, rfl⟩ | ⟨hj, e2⟩
    · cases s2
    · rw [upd_ne ρ _ (by simpa using hj)] at r2
      exact .inr ⟨j, o2, q, e2, s2, r2, rfl⟩

def OVR (ρ : Pl) : Option AV → Option Value → Prop
  | none, none => True
  | some v, some z => VR ρ v z
  | _, _ => False

theorem abound_sound {x : Option AV} {d n : Nat} (e : abound x d = some n) {y : Option Value} (hy : OVR ρ x y) :
    (x = none ∧ y = none ∧ n = d) ∨ ∃ k, x.isSome = true ∧ y = some (.int k (n : Int)) := by
  cases x with
  | none =>
    cases y with
    | none => simp [abound] at e; exact .inl ⟨rfl, rfl, e.symm⟩
    | some _ => exact hy.elim
  | some v =>
    cases y with
    | none => exact hy.elim
    | some z =>
      cases v <;> simp only [abound] at e <;> try cases e
      rename_i k i
      split at e
      · cases e; simp only [OVR, VR] at hy; subst hy
        exact .inr ⟨k, rfl, by rw [Int.toNat_of_nonneg ‹_›]⟩
      · cases e

theorem bounds_run {lo hi : Option AV} {y z : Option Value} (hy : OVR ρ lo y) (hz : OVR ρ hi z) {len l h cap : Nat} (el : abound lo 0 = some l) (eh : abound hi len = some h) (b : Bool) (hle : l ≤ h) (hcap : h ≤ cap) (w : World) :
    (Instr.sliceBounds b len cap y z none).run c.P w = .ok (l, h, cap) w := by
  rcases abound_sound el hy with ⟨_, rfl, rfl⟩ | ⟨k, _, rfl⟩ <;> rcases abound_sound eh hz with ⟨_, rfl, rfl⟩ | ⟨k2, _, rfl⟩
  · simp [Instr.sliceBounds]
  · simp [Instr.sliceBounds, Instr.sliceBound, asIntOf, hcap]
  · simp [Instr.sliceBounds, Instr.sliceBound, asIntOf, hle]
  · simp [Instr.sliceBounds, Instr.sliceBound, asIntOf, hcap, hle]

theorem slice_sound (h : Rel c base w0 ρ H w) {t : TypeId} {x v : AV} {lo hi mx : Option AV} {H' : AHeap} (e : aslice c H t x lo hi mx = some (v, H')) (hf : H.length < H'.length → ρ (.own H.length) = none) {x' : Value} {lo' hi' mx' : Option Value} (hx : VR ρ x x') (hl : OVR ρ lo lo') (hh : OVR ρ hi hi') (hm : OVR ρ mx mx') :
    ∃ ρ' u w', (Instr.sliceAt t x' lo' hi' mx').run c.P w = .ok u w' ∧ VR ρ' v u ∧ Post c base w0 ρ H w ρ' H' w' := by
  simp only [aslice, Option.bind_eq_some_iff] at e
  obtain ⟨d, hd, e⟩ := e
  split at e
  · -- a text
    rename_i s
    split at e
    · cases e
    · rename_i hmx
      have hmn : mx' = none := by cases mx <;> cases mx' <;> simp [OVR] at hm hmx ⊢
      subst hmn
      simp only [Option.bind_eq_some_iff] at e
      obtain ⟨l, el, hh0, eh, e⟩ := e
      split at e
      · rename_i hc
        cases e
        simp only [VR] at hx; subst hx
        have hsz : (⟨s.toArray⟩ : ByteArray).size = s.length := by simp [ByteArray.size]
        have hb := bounds_run (c := c) hl hh el eh false hc.1 hc.2 w
        have hex : (⟨s.toArray⟩ : ByteArray).extract l hh0 = ⟨((s.drop l).take (hh0 - l)).toArray⟩ := by
          apply ByteArray.ext
          simp [ByteArray.data_extract, List.extract_eq_take_drop]
        refine ⟨ρ, .string ⟨((s.drop l).take (hh0 - l)).toArray⟩, w, ?_, rfl, Post.refl h⟩
        simp only [Instr.sliceAt, Sem.run_bind, run_underlying hd, Result.andThen_ok, Instr.slice, hsz]
        simp [hb, hex]
      · cases e
  · -- a nil slice
    split at e
    · cases e
    · rename_i hmx
      have hmn : mx' = none := by cases mx <;> cases mx' <;> simp [OVR] at hm hmx ⊢
      subst hmn
      simp only [Option.bind_eq_some_iff] at e
      obtain ⟨sz, hsz, l, el, hh0, eh, e⟩ := e
      split at e
      · rename_i hc
        obtain ⟨rfl, rfl⟩ := hc
        cases e
        simp only [VR] at hx; subst hx
        have hb := bounds_run (c := c) hl hh el eh true (Nat.le_refl _) (Nat.le_refl 0) w
        exact ⟨ρ, .slice none 0 0, w, by simp [Instr.sliceAt, run_underlying hd, Instr.slice, hb, szOf_run hsz], rfl, Post.refl h⟩
      · cases e
  · -- a slice
    rename_i el' loc esz start len
    obtain ⟨p, hp, hcap, rfl⟩ := hx
    simp only [Option.bind_eq_some_iff] at e
    obtain ⟨n, hn, e⟩ := e
    split at e
    · cases e
    · rename_i hne
      have hne' : n = esz := by simpa using hne
      subst hne'
      simp only [Option.bind_eq_some_iff] at e
      obtain ⟨l, el, e⟩ := e
      split at e
      · rename_i m
        simp only [Option.bind_eq_some_iff] at e
        obtain ⟨hh0, eh, mm, em, e⟩ := e
        split at e
        · rename_i hc
          obtain ⟨rfl, rfl, rfl, hsome⟩ := hc
          cases e
          have hf' := hf (by simp [hnew])
          rcases abound_sound eh hh with ⟨hn0, _, _⟩ | ⟨k2, _, rfl⟩
          · rw [hn0] at hsome; cases hsome
          cases mx' with
          | none => exact hm.elim
          | some z =>
            rcases abound_sound em (y := some z) hm with ⟨h0, _⟩ | ⟨k3, _, h3⟩
            · cases h0
            · cases h3
              refine ⟨upd ρ (.own H.length) ⟨p.b, p.off + start * n, 0⟩, .slice (some ⟨p.b, p.off + start * n, none⟩) 0 0, w, ?_, ⟨⟨p.b, p.off + start * n, 0⟩, upd_same _ _ _, by simp, by simp⟩, post_empty h hf' true _ (fun _ => rfl)⟩
              rcases abound_sound el hl with ⟨_, rfl, _⟩ | ⟨k, _, rfl⟩
              · simp [Instr.sliceAt, run_underlying hd, Instr.slice, Instr.sliceBounds, Instr.sliceBound, asIntOf, szOf_run hn]
              · simp [Instr.sliceAt, run_underlying hd, Instr.slice, Instr.sliceBounds, Instr.sliceBound, asIntOf, szOf_run hn]
        · cases e
      · have hmn : mx' = none := by cases mx' <;> simp [OVR] at hm ⊢
        subst hmn
        simp only [Option.bind_eq_some_iff] at e
        obtain ⟨hh0, eh, e⟩ := e
        split at e
        · rename_i hc
          obtain ⟨hlh, hfit⟩ := hc
          have hcap2 : hh0 ≤ p.cap - start := by
            rcases hfit with hfit | hfit
            · omega
            · unfold ownRow at hfit
              split at hfit
              · rename_i i
                split at hfit
                · rename_i ty e' cs ho
                  simp only [decide_eq_true_eq] at hfit
                  obtain ⟨rfl, hpos, hk⟩ := hfit
                  obtain ⟨q, hq, ⟨ds, g1, g2, g3, g4⟩, _⟩ := h.own i _ ho
                  obtain rfl : p = q := by rw [hp] at hq; exact Option.some.inj hq
                  have : start + hh0 ≤ p.cap := Nat.le_of_mul_le_mul_right (Nat.le_trans hk g3) hpos
                  omega
                · cases hfit
              · cases hfit
          have hb := bounds_run (c := c) hl hh el eh true hlh hcap2 w
          split at e
          · rename_i hl0
            subst hl0
            cases e
            refine ⟨ρ, .slice (some ⟨p.b, p.off + start * n, none⟩) hh0 (p.cap - start), w, ?_, ⟨p, hp, by omega, rfl⟩, Post.refl h⟩
            simp [Instr.sliceAt, run_underlying hd, Instr.slice, hb, szOf_run hn, addr_add]
          · rename_i hl0
            split at e
            · rename_i hlt
              cases e
              refine ⟨ρ, .slice (some ⟨p.b, p.off + start * n + l * n, none⟩) (hh0 - l) (p.cap - start - l), w, ?_, ⟨p, hp, by omega, by rw [Nat.add_mul, Nat.add_assoc, Nat.sub_sub]⟩, Post.refl h⟩
              have : ¬ p.cap - start = l := by omega
              simp [Instr.sliceAt, run_underlying hd, Instr.slice, hb, szOf_run hn, addr_add, this]
            · rename_i hlt
              cases e
              have hf' := hf (by simp [hnew])
              have hz0 : hh0 - l = 0 := by omega
              by_cases hq : p.cap - start = l
              · refine ⟨upd ρ (.own H.length) ⟨p.b, p.off + start * n, 0⟩, .slice (some ⟨p.b, p.off + start * n, none⟩) 0 0, w, ?_, ⟨⟨p.b, p.off + start * n, 0⟩, upd_same _ _ _, by simp, by simp⟩, post_empty h hf' false _ (fun s => by cases s)⟩
                rw [hq] at hb
                simp [Instr.sliceAt, run_underlying hd, Instr.slice, hb, szOf_run hn, addr_add, hq, hz0]
              · refine ⟨upd ρ (.own H.length) ⟨p.b, p.off + start * n + l * n, p.cap - start - l⟩, .slice (some ⟨p.b, p.off + start * n + l * n, none⟩) 0 (p.cap - start - l), w, ?_, ⟨⟨p.b, p.off + start * n + l * n, p.cap - start - l⟩, upd_same _ _ _, by simp, by simp⟩, post_empty h hf' false _ (fun s => by cases s)⟩
                simp [Instr.sliceAt, run_underlying hd, Instr.slice, hb, szOf_run hn, addr_add, hq, hz0]
        · cases e
  · cases e

/-! maps written -/

theorem EntR.get {es : List (AV × AV × Nat)} {xs : List MapEntry} (h : EntR ρ es xs) : ∀ {j : Nat} {x : MapEntry}, xs[j]? = some x → ∃ k v, es[j]? = some (k, v, x.born) ∧ VR ρ k x.key ∧ VR ρ v x.val := by
  induction h with
  | nil => intro j x hj; simp at hj
  | @cons k v n es x y xs hk hv _ ih =>
    intro j z hj
    cases j with
    | zero => simp at hj; subst hj; exact ⟨k, v, rfl, hk, hv⟩
    | succ j => exact ih (by simpa using hj)

theorem EntR.set {es : List (AV × AV × Nat)} {xs : List MapEntry} (h : EntR ρ es xs) {k v : AV} {x y : Value} (hk : VR ρ k x) (hv : VR ρ v y) : ∀ (j : Nat),
    EntR ρ (es.modify j fun e => (k, v, e.2.2)) (xs.modify j fun e => { e with key := x, val := y }) := by
  induction h with
  | nil => intro j; simp; exact .nil
  | @cons k' v' n es x' y' xs hk' hv' ht ih =>
    intro j
    cases j with
    | zero => simp; exact .cons hk hv ht
    | succ j => simp; exact .cons hk' hv' (ih j)

theorem EntR.erase {es : List (AV × AV × Nat)} {xs : List MapEntry} (h : EntR ρ es xs) : ∀ (j : Nat), EntR ρ (es.eraseIdx j) (xs.eraseIdx j) := by
  induction h with
  | nil => intro j; exact .nil
  | @cons k' v' n es x' y' xs hk' hv' ht ih =>
    intro j
    cases j with
    | zero => exact ht
    | succ j => simp; exact .cons hk' hv' (ih j)

theorem EntR.snoc {es : List (AV × AV × Nat)} {xs : List MapEntry} (h : EntR ρ es xs) {k v : AV} {n : Nat} {x y : Value} (hk : VR ρ k x) (hv : VR ρ v y) : EntR ρ (es ++ [(k, v, n)]) (xs ++ [⟨x, y, n⟩]) := by
  induction h with
  | nil => exact .cons hk hv .nil
  | cons hk' hv' _ ih => exact .cons hk' hv' ih

/-- what was found has the key itself -/
theorem findKey_same {d : TypeDesc} {k : AV} {x : Value} (hx : VR ρ k x) {es : List (AV × AV × Nat)} {xs : List MapEntry} (hr : EntR ρ es xs) : ∀ {i j : Nat} {v : AV}, findKey d k es i = some (some (j, v)) →
    i ≤ j ∧ ∃ e, xs[j - i]? = some e ∧ e.key = x := by
  induction hr with
  | nil => intro i j v e; simp [findKey] at e
  | @cons k' v' n es x' y xs hk hv _ ih =>
    intro i j v e
    simp only [findKey, Option.bind_eq_some_iff] at e
    obtain ⟨b, hb, e⟩ := e
    cases b with
    | true =>
      simp at e
      obtain ⟨rfl, _⟩ := e
      refine ⟨Nat.le_refl _, ⟨x', y, n⟩, by simp, ?_⟩
      unfold keyEq at hb
      split at hb <;> (try cases hb) <;> (simp only [VR] at hx hk) <;> subst hx hk <;> (split at hb <;> (try cases hb))
      · split at hb
        · rename_i hkk; simp at hb; subst hb hkk; rfl
        · cases hb
      · simp at hb; subst hb; rfl
      · simp at hb; subst hb; rfl
    | false =>
      obtain ⟨h1, e', h2, h3⟩ := ih (by simpa using e)
      refine ⟨by omega, e', ?_, h3⟩
      rw [show j - i = (j - (i + 1)) + 1 by omega]
      simpa using h2

theorem sameBits_self {d : TypeDesc} {k : AV} (hk : keyOk d k = true) {x : Value} (hx : VR ρ k x) : Instr.sameBits 10000 x x = true := by
  have gen : ∀ n, Instr.sameBits n x x = true := by
    intro n
    unfold keyOk at hk
    split at hk <;> (try cases hk) <;> (simp only [VR] at hx) <;> subst hx
    · unfold Instr.sameBits; simp
    · unfold Instr.sameBits
      simp [beq_toListBytes]
    · unfold Instr.sameBits; simp
  exact gen _

theorem setObj_run (w : World) (b : Nat) {es : Array MapEntry} {cl : Nat} (hb : w.heap[b]? = some (.map es cl)) (o : Obj) : (setObj b o).run c.P w = .ok () { w with heap := w.heap.setIfInBounds b o } := by
  simp [setObj, Sem.run, hb]

theorem post_map (h : Rel c base w0 ρ H w) {i : Nat} {es es' : List (AV × AV × Nat)} {clock clock' : Nat} {p : Place} (e : hat H i = some (.map es clock)) (r : ρ (.own i) = some p) {ents : Array MapEntry} (hE : EntR ρ es' ents.toList) :
    Post c base w0 ρ H w ρ (H.set i (some (.map es' clock'))) { w with heap := w.heap.setIfInBounds p.b (.map ents clock') } := by
  have hlt := rel_lt h e r rfl
  refine post_set h e rfl r rfl rfl rfl (by simp) (fun k hk => ?_) ⟨ents, ?_, hE⟩
  · simp [Array.getElem?_setIfInBounds, Ne.symm hk]
  · simp [hlt]

theorem mapUpdate_sound (h : Rel c base w0 ρ H w) {t : TypeId} {m k v : AV} {H' : AHeap} (e : amapUpdate c H t m k v = some H') {x y z : Value} (hx : VR ρ m x) (hy : VR ρ k y) (hz : VR ρ v z) :
    ∃ w', (Instr.mapUpdate t x y z).run c.P w = .ok () w' ∧ Post c base w0 ρ H w ρ H' w' := by
  simp only [amapUpdate, Option.bind_eq_some_iff] at e
  obtain ⟨d, hd, e⟩ := e
  split at e
  · rename_i kt vt
    simp only [Option.bind_eq_some_iff] at e
    obtain ⟨kd, hkd, e⟩ := e
    split at e
    · rename_i hko
      split at e
      · rename_i i
        split at e
        · rename_i es clock ho
          simp only [Option.bind_eq_some_iff] at e
          obtain ⟨r, hr, e⟩ := e
          obtain ⟨p, hp, rfl⟩ := hx
          obtain ⟨q, hq, ⟨ents, h1, h2⟩, _⟩ := h.own i _ ho
          obtain rfl : p = q := by rw [hp] at hq; exact Option.some.inj hq
          obtain ⟨r', hr1, hr2⟩ := findKey_run hkd hy h2 hr w
          have hg : (getObj p.b).run c.P w = .ok (.map ents clock) w := by simp [getObj, Sem.run, h1]
          split at e
          · rename_i j v0
            cases e
            cases r' with
            | none => exact hr2.elim
            | some q =>
              obtain ⟨j', y0⟩ := q
              obtain ⟨rfl, _⟩ := hr2
              obtain ⟨_, en, he1, he2⟩ := findKey_same hy h2 hr
              simp only [Nat.sub_zero] at he1
              have hent : ents[j]? = some en := by simpa using he1
              refine ⟨_, ?_, post_map h ho hp (ents := ents.modify j fun e => { e with key := y, val := z }) (clock' := clock) ?_⟩
              · simp [Instr.mapUpdate, run_underlying hd, hg, checkKey_run hkd hko hy, hr1, hent, he2, Instr.keyThatStays, sameBits_self hko hy, setObj_run (c := c) w p.b h1]
              · rw [Array.toList_modify]; exact h2.set hy hz j
          · cases e
            cases r' with
            | some q => exact hr2.elim
            | none =>
              refine ⟨_, ?_, post_map h ho hp (ents := ents.push ⟨y, z, clock⟩) (clock' := clock + 1) ?_⟩
              · simp [Instr.mapUpdate, run_underlying hd, hg, checkKey_run hkd hko hy, hr1, setObj_run (c := c) w p.b h1]
              · rw [Array.toList_push]; exact h2.snoc hy hz
        · cases e
      · cases e
    · cases e
  · cases e

theorem EntR.setKey {es : List (AV × AV × Nat)} {xs : List MapEntry} (h : EntR ρ es xs) {k : AV} {x : Value} (hk : VR ρ k x) : ∀ (j : Nat),
    EntR ρ (es.modify j fun e => (k, e.2.1, e.2.2)) (xs.modify j fun e => { e with key := x }) := by
  induction h with
  | nil => intro j; simp; exact .nil
  | @cons k' v' n es x' y' xs hk' hv' ht ih =>
    intro j
    cases j with
    | zero => simp; exact .cons hk hv' ht
    | succ j => simp; exact .cons hk' hv' (ih j)

theorem EntR.setVal {es : List (AV × AV × Nat)} {xs : List MapEntry} (h : EntR ρ es xs) {v : AV} {y : Value} (hv : VR ρ v y) : ∀ (j : Nat),
    EntR ρ (es.modify j fun e => (e.1, v, e.2.2)) (xs.modify j fun e => { e with val := y }) := by
  induction h with
  | nil => intro j; simp; exact .nil
  | @cons k' v' n es x' y' xs hk' hv' ht ih =>
    intro j
    cases j with
    | zero => simp; exact .cons hk' hv ht
    | succ j => simp; exact .cons hk' hv' (ih j)

theorem EntR.born {es : List (AV × AV × Nat)} {xs : List MapEntry} (h : EntR ρ es xs) : ∀ (j : Nat), (xs[j]?).map (·.born) = (es[j]?).map (·.2.2) := by
  induction h with
  | nil => intro j; simp
  | cons _ _ _ ih =>
    intro j
    cases j with
    | zero => simp
    | succ j => simpa using ih j

theorem EntR.stamp {es : List (AV × AV × Nat)} {xs : List MapEntry} (h : EntR ρ es xs) (b : Int) : ∀ {i j : Nat}, stampAt b es i = some j → i ≤ j ∧ xs.findIdx? (fun e => (e.born : Int) == b) = some (j - i) := by
  induction h with
  | nil => intro i j e; simp [stampAt] at e
  | @cons k' v' n es x' y' xs hk' hv' ht ih =>
    intro i j e
    simp only [stampAt] at e
    rw [List.findIdx?_cons]
    split at e
    · rename_i hb
      cases e
      exact ⟨Nat.le_refl _, by simp only [hb]; simp⟩
    · rename_i hb
      obtain ⟨h1, h2⟩ := ih e
      refine ⟨by omega, ?_⟩
      have hb' : ((n : Int) == b) = false := by simpa using hb
      simp only [hb', h2]
      simp; omega

theorem mapEntry_sound (h : Rel c base w0 ρ H w) {t : TypeId} {m k v : AV} {H' : AHeap} (e : amapEntry c H t m k = some (v, H')) {x y : Value} (hx : VR ρ m x) (hy : VR ρ k y) :
    ∃ u w', (Instr.mapEntry t x y).run c.P w = .ok u w' ∧ VR ρ v u ∧ Post c base w0 ρ H w ρ H' w' := by
  simp only [amapEntry, Option.bind_eq_some_iff] at e
  obtain ⟨d, hd, e⟩ := e
  split at e
  · rename_i kt vt
    simp only [Option.bind_eq_some_iff] at e
    obtain ⟨kd, hkd, e⟩ := e
    split at e
    · rename_i hko
      split at e
      · rename_i i
        split at e
        · rename_i es clock ho
          simp only [Option.bind_eq_some_iff] at e
          obtain ⟨r, hr, e⟩ := e
          obtain ⟨p, hp, rfl⟩ := hx
          obtain ⟨q, hq, ⟨ents, h1, h2⟩, _⟩ := h.own i _ ho
          obtain rfl : p = q := by rw [hp] at hq; exact Option.some.inj hq
          obtain ⟨r', hr1, hr2⟩ := findKey_run hkd hy h2 hr w
          have hg : (getObj p.b).run c.P w = .ok (.map ents clock) w := by simp [getObj, Sem.run, h1]
          split at e
          · rename_i j v0
            simp only [Option.some.injEq, Prod.mk.injEq] at e
            obtain ⟨rfl, rfl⟩ := e
            cases r' with
            | none => exact hr2.elim
            | some q =>
              obtain ⟨j', y0⟩ := q
              obtain ⟨rfl, hv0⟩ := hr2
              obtain ⟨_, en, he1, he2⟩ := findKey_same hy h2 hr
              simp only [Nat.sub_zero] at he1
              have hent : ents[j]? = some en := by simpa using he1
              have hb := h2.born j
              rw [he1] at hb
              simp only [Option.map_some] at hb
              refine ⟨.tuple #[y0, .int .i64 (en.born : Int)], _, ?_, ⟨[y0, .int .i64 (en.born : Int)], ⟨y0, _, rfl, hv0, _, [], rfl, ?_, rfl⟩, rfl⟩, post_map h ho hp (ents := ents.modify j fun e => { e with key := y }) (clock' := clock) ?_⟩
              · simp [Instr.mapEntry, run_underlying hd, hg, checkKey_run hkd hko hy, hr1, hent, he2, Instr.keyThatStays, sameBits_self hko hy, setObj_run (c := c) w p.b h1, goInt]
              · rw [← hb]; rfl
              · rw [Array.toList_modify]; exact h2.setKey hy j
          · simp only [Option.map_eq_some_iff, Prod.mk.injEq] at e
            obtain ⟨z, hz, rfl, rfl⟩ := e
            obtain ⟨zz, hzz, hzv⟩ := zeroAV_run (c := c) (ρ := ρ) hz w
            cases r' with
            | some q => exact hr2.elim
            | none =>
              refine ⟨.tuple #[zz, .int .i64 (clock : Int)], _, ?_, ⟨[zz, .int .i64 (clock : Int)], ⟨zz, _, rfl, hzv, _, [], rfl, rfl, rfl⟩, rfl⟩, post_map h ho hp (ents := ents.push ⟨y, zz, clock⟩) (clock' := clock + 1) ?_⟩
              · simp [Instr.mapEntry, run_underlying hd, hg, checkKey_run hkd hko hy, hr1, hzz, setObj_run (c := c) w p.b h1, goInt]
              · rw [Array.toList_push]; exact h2.snoc hy hzv
        · cases e
      · cases e
    · cases e
  · cases e

theorem entryStore_sound (h : Rel c base w0 ρ H w) (t : TypeId) {m s v : AV} {H' : AHeap} (e : aentryStore H m s v = some H') {x y z : Value} (hx : VR ρ m x) (hy : VR ρ s y) (hz : VR ρ v z) :
    ∃ w', (Instr.entryStore t x y z).run c.P w = .ok () w' ∧ Post c base w0 ρ H w ρ H' w' := by
  unfold aentryStore at e
  split at e
  · rename_i i k born
    split at e
    · rename_i es clock ho
      simp only [Option.map_eq_some_iff] at e
      obtain ⟨j, hj, rfl⟩ := e
      obtain ⟨p, hp, rfl⟩ := hx
      simp only [VR] at hy
      subst hy
      obtain ⟨q, hq, ⟨ents, h1, h2⟩, _⟩ := h.own i _ ho
      obtain rfl : p = q := by rw [hp] at hq; exact Option.some.inj hq
      have hg : (getObj p.b).run c.P w = .ok (.map ents clock) w := by simp [getObj, Sem.run, h1]
      obtain ⟨_, hst⟩ := h2.stamp born hj
      simp only [Nat.sub_zero] at hst
      have hst' : ents.findIdx? (fun e => (e.born : Int) == born) = some j := by cases ents with | mk l => simpa using hst
      refine ⟨_, ?_, post_map h ho hp (ents := ents.modify j fun e => { e with val := z }) (clock' := clock) ?_⟩
      · simp [Instr.entryStore, hg, asInt, asIntOf, hst', setObj_run (c := c) w p.b h1]
      · rw [Array.toList_modify]; exact h2.setVal hz j
    · cases e
  · cases e

theorem delete_sound (h : Rel c base w0 ρ H w) {t ty : TypeId} {m k : AV} {H' : AHeap} (e : adelete c H t m k = some H') {x y : Value} (hx : VR ρ m x) (hy : VR ρ k y) (ts : Array TypeId) (hts : ts[0]? = some t) :
    ∃ w', (Builtin.delete_ ts ty #[x, y]).run c.P w = .ok (.tuple #[]) w' ∧ Post c base w0 ρ H w ρ H' w' := by
  simp only [adelete, Option.bind_eq_some_iff] at e
  obtain ⟨d, hd, e⟩ := e
  split at e
  · rename_i kt vt
    simp only [Option.bind_eq_some_iff] at e
    obtain ⟨kd, hkd, e⟩ := e
    split at e
    · rename_i hko
      split at e
      · cases e
        simp only [VR] at hx; subst hx
        exact ⟨w, by simp [Builtin.delete_, hts, run_underlying hd, checkKey_run hkd hko hy], Post.refl h⟩
      · rename_i i
        split at e
        · rename_i es clock ho
          simp only [Option.bind_eq_some_iff] at e
          obtain ⟨r, hr, e⟩ := e
          obtain ⟨p, hp, rfl⟩ := hx
          obtain ⟨q, hq, ⟨ents, h1, h2⟩, _⟩ := h.own i _ ho
          obtain rfl : p = q := by rw [hp] at hq; exact Option.some.inj hq
          obtain ⟨r', hr1, hr2⟩ := findKey_run hkd hy h2 hr w
          have hg : (getObj p.b).run c.P w = .ok (.map ents clock) w := by simp [getObj, Sem.run, h1]
          split at e
          · rename_i j v0
            cases e
            cases r' with
            | none => exact hr2.elim
            | some q =>
              obtain ⟨j', y0⟩ := q
              obtain ⟨rfl, _⟩ := hr2
              obtain ⟨_, en, he1, he2⟩ := findKey_same hy h2 hr
              simp only [Nat.sub_zero] at he1
              have hlt : j < ents.size := by simpa using (List.getElem?_eq_some_iff.1 he1).1
              refine ⟨_, ?_, post_map h ho hp (ents := ents.eraseIdxIfInBounds j) (clock' := clock) ?_⟩
              · simp [Builtin.delete_, hts, run_underlying hd, hg, checkKey_run hkd hko hy, hr1, setObj_run (c := c) w p.b h1]
              · rw [Array.eraseIdxIfInBounds, dif_pos hlt, Array.toList_eraseIdx]; exact h2.erase j
          · cases e
            cases r' with
            | some q => exact hr2.elim
            | none =>
              refine ⟨w, ?_, Post.refl h⟩
              have hself : ({ w with heap := w.heap.setIfInBounds p.b (.map ents clock) } : World) = w := by
                have : w.heap.setIfInBounds p.b (.map ents clock) = w.heap := by
                  apply Array.ext'
                  apply List.ext_getElem?
                  intro n
                  simp only [Array.toList_setIfInBounds, List.getElem?_set, Array.getElem?_toList]
                  split
                  · rename_i hn; subst hn
                    split
                    · exact h1.symm
                    · rename_i hge; rw [Array.getElem?_eq_none (by simpa using hge)] at h1; cases h1
                  · rfl
                rw [this]
              simp [Builtin.delete_, hts, run_underlying hd, hg, checkKey_run hkd hko hy, hr1, setObj_run (c := c) w p.b h1, hself]
        · cases e
      · cases e
    · cases e
  · cases e

/-! copy, clear -/

theorem copy_sound (h : Rel c base w0 ρ H w) {dt ty t2 : TypeId} {x y v : AV} {H' : AHeap} (e : acopy c H dt x y = some (v, H')) {x' y' : Value} (hx : VR ρ x x') (hy : VR ρ y y') (ts : Array TypeId) (hts : ts[0]? = some dt) (_hts1 : ts[1]? = some t2 ∨ True) :
    ∃ u w', (Builtin.copy_ ts ty #[x', y']).run c.P w = .ok u w' ∧ VR ρ v u ∧ Post c base w0 ρ H w ρ H' w' := by
  simp only [acopy, Option.bind_eq_some_iff] at e
  obtain ⟨d, hd, e⟩ := e
  split at e
  · rename_i el
    simp only [Option.bind_eq_some_iff] at e
    obtain ⟨n, hn, ⟨sn, cs⟩, hsrc, e⟩ := e
    obtain ⟨hlen, hcl, hc1, xs, hr, hfc⟩ := source_sound h hsrc hy
    split at e
    · cases e
      simp only [VR] at hx; subst hx
      have hf0 := hfc w (fun _ => rfl) 0 (Nat.zero_le _)
      exact ⟨goInt 0, w, by simp [Builtin.copy_, hts, run_underlying hd, hlen, szOf_run hn, hf0], rfl, Post.refl h⟩
    · rename_i l esz start dn
      obtain ⟨p, hp, hcap, rfl⟩ := hx
      split at e
      · rename_i he
        subst he
        split at e
        · rename_i h0
          cases e
          have hf0 := hfc w (fun _ => rfl) 0 (Nat.zero_le _)
          have hmin : Nat.min sn dn = 0 := h0
          exact ⟨goInt 0, w, by simp [Builtin.copy_, hts, run_underlying hd, hlen, szOf_run hn, hmin, hf0, storeCells], rfl, Post.refl h⟩
        · rename_i h0
          simp only [Option.map_eq_some_iff, Prod.mk.injEq] at e
          obtain ⟨H2, hH2, rfl, rfl⟩ := e
          have hfm := hfc w (fun _ => rfl) (min sn dn) (Nat.min_le_left _ _)
          obtain ⟨w', hw', hpost⟩ := wr_sound h hH2 hp (hr.take (min sn dn * esz))
          refine ⟨goInt (min sn dn : Nat), w', ?_, rfl, hpost⟩
          have hmin : Nat.min sn dn = min sn dn := rfl
          simp [Builtin.copy_, hts, run_underlying hd, hlen, szOf_run hn, hmin, hfm, hw']
      · cases e
    · cases e
  · cases e

end Go.AM
