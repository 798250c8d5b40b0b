/-
  The evaluator: abstract values (slices as lists, no memory), the code with its types resolved, and the function that runs it. No condition.
-/
import Derived.Calls
import Derived.Below
namespace Go.Proofs.YtboejpobmpfifaaGreatDoor.Eng
open Go

/-- The right to append: none; a nil slice; the slice is the front of growing buffer i; an empty slice that has no room. -/
inductive Own where
  | no | nil | buf (i : Nat) | emp

inductive V where
  | junk
  | bool (b : Bool)
  | int (k : IntKind) (n : Int)
  | str (s : List UInt8)
  | nilF | nilI | pnil | mnil
  | fn (f : Fn) (first cap : List V)
  | sl (o : Own) (xs : List V)
  /-- a slice that may be written: of object id, from a cell on, so many elements of so many cells -/
  | msl (id sz off len : Nat)
  | agg (cs : List V)
  | tup (vs : List V)
  | ptr (id off : Nat)
  | ept (cs : List V)
  | map (id : Nat)
  | itr (id : Nat)
  | ifc (t : TypeId) (v : V)
  /-- where a growing buffer's elements stand -/
  | dat (i : Nat) (xs : List V)
  /-- a slice of elements of so many cells, and of one more that isn't told yet; where that one stands; that place, when it is told -/
  | slx (i sz : Nat) (xs : List V)
  | spp (i sz n : Nat)
  | epz (i sz n : Nat) (cs : List V)

instance : Inhabited V := ⟨.junk⟩

def V.cells : V → List V
  | .agg cs => cs
  | v => [v]

/-- Something is known of it. -/
def V.real : V → Bool
  | .junk => false
  | _ => true

/-- One cell's value, that may be stored. -/
def V.one : V → Bool
  | .junk | .agg _ | .tup _ | .dat _ _ | .spp _ _ _ | .epz _ _ _ _ => false
  | _ => true

mutual
/-- It names objects below n and buffers below b alone. -/
def V.und (n b : Nat) : V → Bool
  | .fn _ xs ys => undL n b xs && undL n b ys
  | .sl (.buf i) xs => decide (i < b) && undL n b xs
  | .sl _ xs => undL n b xs
  | .agg cs => undL n b cs
  | .tup cs => undL n b cs
  | .ept cs => undL n b cs
  | .ptr id _ => decide (id < n)
  | .msl id _ _ _ => decide (id < n)
  | .map id => decide (id < n)
  | .itr id => decide (id < n)
  | .ifc _ v => v.und n b
  | .dat i xs => decide (i < b) && undL n b xs
  | .slx i _ xs => decide (i < b) && undL n b xs
  | .spp i _ _ => decide (i < b)
  | .epz i _ _ cs => decide (i < b) && undL n b cs
  | _ => true
def undL (n b : Nat) : List V → Bool
  | [] => true
  | v :: vs => v.und n b && undL n b vs
end

mutual
/-- All rights to append are given up. -/
def V.plain : V → V
  | .fn f xs ys => .fn f (plainL xs) (plainL ys)
  | .sl _ xs => .sl .no (plainL xs)
  | .agg cs => .agg (plainL cs)
  | .tup cs => .tup (plainL cs)
  | .ept cs => .ept (plainL cs)
  | .ifc t v => .ifc t v.plain
  | .dat _ _ => .junk
  | .slx i sz xs => .slx i sz (plainL xs)
  | .spp _ _ _ => .junk
  | .epz _ _ _ _ => .junk
  | v => v
def plainL : List V → List V
  | [] => []
  | v :: vs => v.plain :: plainL vs
end

inductive AObj where
  | cells (t : TypeId) (cs : List V)
  | map (es : List (V × V × Nat)) (clock : Nat)
  | iter (s : List UInt8) (pos : Nat)
  /-- an array that may be longer than what is known of it -/
  | arr (t : TypeId) (cs : List V)
  /-- an array that has perhaps become another -/
  | dead

def AObj.und (n b : Nat) : AObj → Bool
  | .cells _ cs => undL n b cs
  | .map es _ => es.all fun e => e.1.und n b && e.2.1.und n b
  | .iter _ _ => true
  | .arr _ cs => undL n b cs
  | .dead => true

/-- What sort of object. -/
def AObj.kind : AObj → Nat
  | .cells _ _ => 0
  | .map _ _ => 1
  | .iter _ _ => 2
  | .arr _ _ => 3
  | .dead => 4

mutual
/-- One more than the greatest object that is named. -/
def V.top : V → Nat
  | .fn _ xs ys => max (topL xs) (topL ys)
  | .sl _ xs => topL xs
  | .agg cs => topL cs
  | .tup cs => topL cs
  | .ept cs => topL cs
  | .ptr id _ => id + 1
  | .msl id _ _ _ => id + 1
  | .map id => id + 1
  | .itr id => id + 1
  | .ifc _ v => v.top
  | .dat _ xs => topL xs
  | .slx _ _ xs => topL xs
  | .epz _ _ _ cs => topL cs
  | _ => 0
def topL : List V → Nat
  | [] => 0
  | v :: vs => max v.top (topL vs)
end

structure St where
  obs : List AObj
  /-- how long a growing buffer is, its elements' bytes, and their type -/
  bufs : List (Nat × Nat × TypeId)

inductive X where
  | tmp (t : Nat)
  | c (v : V)

mutual
inductive AOp where
  | mov (x : X)
  | nilb (bytes : Nat × TypeId)
  | pick (c a b : X)
  | new (t : TypeId) (cs : List V)
  | box (t : TypeId) (x : X)
  | build (zero : List V) (parts : List (Nat × Nat × X))
  | bsl (sz : Nat) (zero : V) (n : Nat) (parts : List (Nat × X))
  | load (n : Option Nat) (x : X)
  | store (n : Nat) (p x : X)
  | nilchk (x : X)
  | bin (op : BinOp) (x y : X)
  | eqb (neg : Bool) (x y : X)
  | eqp (neg : Bool) (x y : X)
  /-- structs of plain fields: of numbers (0), bools (1), texts (2) -/
  | eqs (neg : Bool) (ks : List Nat) (x y : X)
  /-- x == nil, of a slice or of an interface -/
  | eqn (sl neg : Bool) (x : X)
  | un (op : UnOp) (x : X)
  | cvI (k : IntKind) (x : X)
  | cvS (x : X)
  | mkfn (fn : Fn) (first cap : List X)
  | mkmap
  | slcS (x : X) (lo hi : Option X)
  | slc (sz : Nat) (x : X) (lo hi : Option X)
  | fadr (off : Nat) (x : X)
  | fld (off : Nat) (n : Option Nat) (x : X)
  | iadr (sz : Nat) (x i : X)
  | idx (x i : X)
  | ext (x : X) (i : Nat)
  /-- of a string (0), a slice (1), a map (2) -/
  | len (kk : Nat) (x : X)
  | app (str : Bool) (sz : Nat) (bytes : Nat × TypeId) (x y : X)
  /-- append of one that is told later; the telling -/
  | appz (sz : Nat) (bytes : Nat × TypeId) (x y : X)
  | stz (n : Nat) (p x : X)
  /-- append, to a slice that may be written -/
  | appm (sz : Nat) (bytes : Nat × TypeId) (x y : X)
  | mks (sz : Nat) (bytes : Nat × TypeId) (zero : V) (x y : X)
  | slc3 (sz : Nat) (x lo hi mx : X)
  | clr (sz : Nat) (zero : V) (x : X)
  | mxn (max : Bool) (x y : X)
  | look (kk : Nat) (zero : V) (ok : Bool) (m k : X)
  | mupd (kk : Nat) (m k v : X)
  | ment (kk : Nat) (zero : V) (m k : X)
  | est (m s v : X)
  | rng (x : X)
  | nxt (x : X)
  | ifc (t : TypeId) (x : X)
  /-- a text of bytes; of one rune -/
  | b2s (x : X)
  | i2s (x : X)
  /-- where a buffer's elements stand; a text of so many bytes that stand there -/
  | sdata (x : X)
  | ustr (e : TypeId) (x n : X)
  /-- a pointer to unsafe.Pointer, and back -/
  | pu (x : X)
  | up (u : TypeId) (n : Nat) (x : X)
  /-- own: the arguments keep their rights; quiet: the store stays as it was -/
  | call (own quiet : Bool) (f : X) (args : List X)
  /-- 'a && b' (and = true), 'a || b': slot t holds a; the rows give b -/
  | sc (t : Nat) (and : Bool) (a : X) (rows : List ARow) (b : X)
inductive ARow where
  | mk (dst : Option Nat) (op : AOp)
end

def ARow.dst : ARow → Option Nat | .mk d _ => d
def ARow.op : ARow → AOp | .mk _ o => o

mutual
/-- The slots that rows write. -/
def dstsO : AOp → List Nat
  | .sc t _ _ rows _ => t :: dstsL rows
  | _ => []
def dstsR : ARow → List Nat
  | .mk d o => d.toList ++ dstsO o
def dstsL : List ARow → List Nat
  | [] => []
  | r :: rs => dstsR r ++ dstsL rs
end

inductive ACode where
  | skip
  | halt
  | reg (rows : List ARow)
  /-- a region that draws its order; slots whose pointers must be of two objects -/
  | regD (aps : List (Nat × Nat)) (rows : List ARow)
  | seq (a b : ACode)
  | cond (x : X) (a b : ACode)
  | blk (id : Nat) (c : ACode)
  | loop (gc : Bool) (c : ACode)
  | scope (c : ACode)
  | exit (id : Nat)
  | ret

inductive ARes where
  | tmp (t : Nat)
  | cell (t : Nat) (n : Option Nat)

structure AFunc where
  ntmps : Nat
  res : List ARes
  body : ACode
  keep : Bool

abbrev Env := Nat → V

def upd (env : Env) (d : Nat) (v : V) : Env := fun t => if t = d then v else env t

def kill (env : Env) (ds : List Nat) : Env := fun t => if ds.contains t then .junk else env t

def put (env : Env) (d : Option Nat) (v : V) : Env :=
  match d with
  | some d => upd env d v
  | none => env

def X.ev (env : Env) : X → V
  | .tmp t => env t
  | .c v => v

def i64max : Int := 9223372036854775807
def room : Nat := 2 ^ 47

def intBin (op : BinOp) (k : IntKind) (a b : Int) : Option V :=
  match op with
  | .add => some (.int k (k.wrap (a + b)))
  | .sub => some (.int k (k.wrap (a - b)))
  | .mul => some (.int k (k.wrap (a * b)))
  | .quo => if b = 0 then none else some (.int k (k.wrap (a.tdiv b)))
  | .rem => if b = 0 then none else some (.int k (a.tmod b))
  | .and => some (.int k (k.wrap (BitVec.ofInt k.bits a &&& BitVec.ofInt k.bits b).toNat))
  | .or => some (.int k (k.wrap (BitVec.ofInt k.bits a ||| BitVec.ofInt k.bits b).toNat))
  | .xor => some (.int k (k.wrap (BitVec.ofInt k.bits a ^^^ BitVec.ofInt k.bits b).toNat))
  | .andNot => some (.int k (k.wrap (BitVec.ofInt k.bits a &&& ~~~BitVec.ofInt k.bits b).toNat))
  | .eql => some (.bool (decide (a = b)))
  | .neq => some (.bool (!decide (a = b)))
  | .lss => some (.bool (decide (a < b)))
  | .leq => some (.bool (decide (a ≤ b)))
  | .gtr => some (.bool (decide (b < a)))
  | .geq => some (.bool (decide (b ≤ a)))
  | _ => none

def strBin (op : BinOp) (a b : List UInt8) : Option V :=
  match op with
  | .add => if ((a.length + b.length : Nat) : Int) ≤ i64max then some (.str (a ++ b)) else none
  | .eql => some (.bool (decide (a = b)))
  | .neq => some (.bool (!decide (a = b)))
  | .lss => some (.bool (Op.bytesLess a b))
  | .leq => some (.bool (Op.bytesLess a b || decide (a = b)))
  | .gtr => some (.bool (!(Op.bytesLess a b || decide (a = b))))
  | .geq => some (.bool (!(Op.bytesLess a b)))
  | _ => none

def shBin (op : BinOp) (k : IntKind) (a b : Int) : Option V :=
  if b < 0 then none else
  match op with
  | .shl => some (.int k (k.wrap (a * 2 ^ (min b.toNat k.bits))))
  | .shr => some (.int k (a.fdiv (2 ^ (min b.toNat k.bits))))
  | _ => none

def isSh : BinOp → Bool
  | .shl | .shr => true
  | _ => false

def evBin (op : BinOp) (x y : V) : Option V :=
  match x, y with
  | .int k a, .int k' b => if isSh op then shBin op k a b else if k = k' then intBin op k a b else none
  | .str a, .str b => strBin op a b
  | _, _ => none

def evUn (op : UnOp) (x : V) : Option V :=
  match op, x with
  | .neg, .int k n => some (.int k (k.wrap (0 - n)))
  | .not, .bool b => some (.bool (!b))
  | _, _ => none

/-- The cells with some written anew from a place on. -/
def putL (cs : List V) (off : Nat) : List V → List V
  | [] => cs
  | v :: vs => putL (cs.set off v) (off + 1) vs

def fillL (cs : List V) : List (Nat × Nat × V) → Option (List V)
  | [] => some cs
  | (off, n, v) :: r => if v.real = true ∧ v.cells.length = n ∧ off + n ≤ cs.length then fillL (putL cs off v.cells) r else none

def fillS (sz : Nat) (xs : List V) : List (Nat × V) → Option (List V)
  | [] => some xs
  | (i, v) :: r => if v.cells.all V.one = true ∧ v.cells.length = sz ∧ i < xs.length then fillS sz (xs.set i v) r else none

def takeN (n : Option Nat) (cs : List V) : Option V :=
  match n with
  | none => cs.head?
  | some n => if n ≤ cs.length then some (.agg (cs.take n)) else none

/-- Are two keys one? -/
def keyEq : V → V → Option Bool
  | .str a, .str b => some (decide (a = b))
  | .int k a, .int k' b => if k = k' then some (decide (a = b)) else none
  | .bool a, .bool b => some (decide (a = b))
  | _, _ => none

/-- Where a key is, and its value. -/
def find (k : V) : List (V × V × Nat) → Option (Option (V × Nat))
  | [] => some none
  | e :: es =>
    match keyEq k e.1 with
    | some true => some (some (e.2.1, e.2.2))
    | some false => find k es
    | none => none

/-- The entry of a key turned; the keys stay. -/
def setKey (k v : V) : List (V × V × Nat) → List (V × V × Nat)
  | [] => []
  | e :: es => if keyEq k e.1 = some true then (e.1, v, e.2.2) :: es else e :: setKey k v es

def setBorn (b : Nat) (v : V) : List (V × V × Nat) → Option (List (V × V × Nat))
  | [] => none
  | e :: es => if e.2.2 = b then some ((e.1, v, e.2.2) :: es) else (setBorn b v es).map (e :: ·)

/-- A key of a kind: 0 strings, 1 whole numbers, 2 bools. -/
def keyOk : Nat → V → Bool
  | 0, .str _ => true
  | 1, .int _ _ => true
  | 2, .bool _ => true
  | _, _ => false

def asBytes (s : List UInt8) : List V := s.map fun b => .int .u8 b.toNat

/-- What is appended: the elements. -/
def appSrc : Bool → V → Option (List V)
  | false, .sl _ ys => some ys
  | true, .str s => some (asBytes s)
  | _, _ => none

/-- The first element, if there is one, has so many cells. -/
def fits (sz : Nat) : List V → Bool
  | [] => true
  | v :: _ => v.cells.length == sz

def evApp (str : Bool) (sz : Nat) (by_ : Nat × TypeId) (x y : V) (s : St) : Option (V × St) :=
  match x, appSrc str y with
  | .sl o xs, some ys =>
    if ys.length = 0 then some (x, s)
    else if fits sz xs = true ∧ fits sz ys = true ∧ (xs.length + ys.length) * by_.1 ≤ room then
      match o with
      | .no => none
      | .nil =>
        if xs.length = 0 then some (.sl (.buf s.bufs.length) ys, { s with bufs := s.bufs ++ [(ys.length, by_)] }) else none
      | .emp =>
        if xs.length = 0 then some (.sl (.buf s.bufs.length) ys, { s with bufs := s.bufs ++ [(ys.length, by_)] }) else none
      | .buf i =>
        if s.bufs[i]? = some (xs.length, by_) then
          some (.sl (.buf i) (xs ++ ys), { s with bufs := s.bufs.set i (xs.length + ys.length, by_) })
        else none
    else none
  | _, _ => none

/-- A buffer of which the next element isn't told yet bears this. -/
def pendF : Nat := 1099511627776

def evAppz (sz : Nat) (by_ : Nat × TypeId) (x y : V) (s : St) : Option (V × St) :=
  match x, y with
  | .sl o xs, .sl _ [z] =>
    if fits sz xs = true ∧ fits sz [z] = true ∧ (xs.length + 1) * by_.1 ≤ room then
      match o with
      | .no => none
      | .nil => if xs.length = 0 then some (.slx s.bufs.length sz [], { s with bufs := s.bufs ++ [(0, by_.1 + pendF, by_.2)] }) else none
      | .emp => if xs.length = 0 then some (.slx s.bufs.length sz [], { s with bufs := s.bufs ++ [(0, by_.1 + pendF, by_.2)] }) else none
      | .buf i =>
        if s.bufs[i]? = some (xs.length, by_) then some (.slx i sz xs, { s with bufs := s.bufs.set i (xs.length, by_.1 + pendF, by_.2) }) else none
    else none
  | _, _ => none

def evStz (n : Nat) (p x : V) (s : St) : Option (V × St) :=
  match p with
  | .spp i sz k =>
    match s.bufs[i]? with
    | some (m, b, t) =>
      if m = k ∧ pendF < b ∧ x.cells.length = n ∧ n = sz ∧ x.cells.all V.one = true then some (.epz i sz k x.cells, { s with bufs := s.bufs.set i (k + 1, b - pendF, t) }) else none
    | none => none
  | _ => none

/-- An element, of its cells. -/
def packV (cs : List V) : V :=
  match cs with
  | [c] => c
  | cs => .agg cs

/-- So many elements of so many cells, out of the cells. -/
def chunkV (sz : Nat) : Nat → List V → List V
  | 0, _ => []
  | n + 1, l => packV (l.take sz) :: chunkV sz n (l.drop sz)
/-- An array's elements, if it is just so many. -/
def rowV (sz len : Nat) (cs : List V) : Option (List V) :=
  if 0 < sz ∧ cs.length = len * sz ∧ (plainL cs).all V.one = true then some (chunkV sz len (plainL cs)) else none

/-- Slices of arrays from n on, told as lists: nobody will write these any more. -/
def tell1 (obs : List AObj) (n id sz off len : Nat) : V :=
  match obs[id]? with
  | some (.arr _ cs) =>
    if n ≤ id ∧ off = 0 then
      match rowV sz len cs with
      | some xs => .sl .no xs
      | none => .msl id sz off len
    else .msl id sz off len
  | _ => .msl id sz off len
mutual
def tellV (obs : List AObj) (n : Nat) : V → V
  | .msl id sz off len => tell1 obs n id sz off len
  | .agg cs => .agg (tellL obs n cs)
  | .tup cs => .tup (tellL obs n cs)
  | v => v
def tellL (obs : List AObj) (n : Nat) : List V → List V
  | [] => []
  | v :: vs => tellV obs n v :: tellL obs n vs
end

/-- A cell's slice told as a list, behind its last writing; its array is dead. -/
def frzAt (p : V) (q : Nat) (s : St) : St :=
  match p with
  | .ptr id o =>
    match s.obs[id]? with
    | some (.cells t cs) =>
      match cs[o + q]? with
      | some (.msl id2 sz 0 len) =>
        match s.obs[id2]? with
        | some (.arr _ cs2) =>
          match rowV sz len cs2 with
          | some xs => { s with obs := (s.obs.set id2 .dead).set id (.cells t (cs.set (o + q) (.sl .no xs))) }
          | none => s
        | _ => s
      | _ => s
    | _ => s
  | _ => s

/-- What was told later, told. -/
def told (x q : V) : V :=
  match x, q with
  | .slx i sz xs, .epz j sz' k cs => if i = j ∧ sz = sz' ∧ xs.length = k ∧ cs.length = sz ∧ cs.all V.one = true then .sl (.buf i) (xs ++ [packV cs]) else .slx i sz xs
  | x, _ => x

def toldAt (p q : V) (s : St) : St :=
  match p with
  | .ptr id off =>
    match s.obs[id]? with
    | some (.cells t cs) =>
      match cs[off]? with
      | some x => { s with obs := s.obs.set id (.cells t (cs.set off (told x q))) }
      | none => s
    | _ => s
  | _ => s

/-- Behind a region: what was told later, told: at a place, in a slot. -/
def tells : List (Nat × Nat) → Env → St → Env × St
  | [], env, s => (env, s)
  | p :: r, env, s =>
    if p.2 < 2000000 then tells r env s
    else if p.2 < 3000000 then tells r env (toldAt (env p.1) (env (p.2 - 2000000)) s)
    else if p.2 < 4000000 then tells r (upd env p.1 (told (env p.1) (env (p.2 - 3000000)))) s
    else tells r env (frzAt (env p.1) (p.2 - 4000000) s)

/-- Bytes, of their values. -/
def bytesOf : List V → Option (List UInt8)
  | [] => some []
  | .int .u8 n :: xs => if 0 ≤ n ∧ n < 256 then (bytesOf xs).map (UInt8.ofNat n.toNat :: ·) else none
  | _ => none

def bnd (x : Option V) (d : Nat) : Option Nat :=
  match x with
  | none => some d
  | some (.int _ n) => if 0 ≤ n then some n.toNat else none
  | _ => none

def evSlcS (x : V) (lo hi : Option V) : Option V :=
  match x with
  | .str s =>
    match bnd lo 0, bnd hi s.length with
    | some l, some h => if l ≤ h ∧ h ≤ s.length then some (.str ((s.take h).drop l)) else none
    | _, _ => none
  | _ => none

def evSlc (sz : Nat) (x : V) (lo hi : Option V) (s : St) : Option V :=
  match x with
  | .msl id z off len =>
    match bnd lo 0, bnd hi len, s.obs[id]? with
    | some l, some h, some (.arr _ cs) =>
      if z = sz ∧ 0 < sz ∧ l ≤ h ∧ off + h * sz ≤ cs.length then
        some (if l = h ∧ l ≠ 0 then .sl .no [] else .msl id sz (off + l * sz) (h - l))
      else none
    | _, _, _ => none
  | .sl o xs =>
    match bnd lo 0, bnd hi xs.length with
    | some l, some h =>
      if l ≤ h ∧ h ≤ xs.length ∧ fits sz xs = true then
        some (if l = 0 ∧ h = xs.length then .sl o xs else .sl .no ((xs.take h).drop l))
      else none
    | _, _ => none
  | _ => none

def evEqp (neg : Bool) (x y : V) : Option V :=
  match x, y with
  | .pnil, .pnil => some (.bool (!neg))
  | .pnil, .ptr _ _ | .ptr _ _, .pnil => some (.bool neg)
  | .ptr a i, .ptr b j => if a = b then some (.bool (decide (i = j) != neg)) else none
  | _, _ => none

def evLook (zero : V) (ok : Bool) (es : List (V × V × Nat)) (k : V) : Option V :=
  match find k es with
  | some (some (v, _)) => some (if ok then .tup [v, .bool true] else v)
  | some none => some (if ok then .tup [zero, .bool false] else zero)
  | none => none

/-- The elements' cells of a slice. -/
def srcCells (sz : Nat) (y : V) (s : St) : Option (List V × Nat) :=
  match y with
  | .sl _ ys => if fits sz ys = true ∧ (ys.flatMap V.cells).all V.one = true ∧ (ys.all fun v => v.cells.length == sz) = true then some (ys.flatMap V.cells, ys.length) else none
  | .msl id z off len =>
    match s.obs[id]? with
    | some (.arr _ cs) => if z = sz ∧ off + len * sz ≤ cs.length ∧ ((cs.drop off).take (len * sz)).all V.one = true then some ((cs.drop off).take (len * sz), len) else none
    | _ => none
  | _ => none

def evAppm (sz : Nat) (by_ : Nat × TypeId) (x y : V) (s : St) : Option (V × St) :=
  match srcCells sz y s with
  | none => none
  | some (news, n) =>
    match x with
    | .sl .nil [] =>
      if n = 0 then some (x, s)
      else if n * by_.1 ≤ room then some (.msl s.obs.length sz 0 n, { s with obs := s.obs ++ [.arr by_.2 news] }) else none
    | .sl .emp [] =>
      if n = 0 then some (x, s)
      else if n * by_.1 ≤ room then some (.msl s.obs.length sz 0 n, { s with obs := s.obs ++ [.arr by_.2 news] }) else none
    | .msl id z off len =>
      if n = 0 then some (x, s) else
      match s.obs[id]? with
      | some (.arr t cs) =>
        if z = sz ∧ t = by_.2 then
          if off + (len + n) * sz ≤ cs.length then some (.msl id sz off (len + n), { s with obs := s.obs.set id (.arr t (putL cs (off + len * sz) news)) })
          else if off = 0 ∧ len * sz = cs.length ∧ (len + n) * by_.1 ≤ room ∧ cs.all V.one = true then
            some (.msl s.obs.length sz 0 (len + n), { s with obs := s.obs.set id .dead ++ [.arr t (cs ++ news)] })
          else none
        else none
      | _ => none
    | _ => none

def evMks (sz : Nat) (by_ : Nat × TypeId) (zero x y : V) (s : St) : Option (V × St) :=
  match x, y with
  | .int _ n, .int _ m => if m = n ∧ 0 ≤ n ∧ n.toNat * by_.1 ≤ room then some (.msl s.obs.length sz 0 n.toNat, { s with obs := s.obs ++ [.arr by_.2 (List.replicate n.toNat zero.cells).flatten] }) else none
  | _, _ => none

def evClr (sz : Nat) (zero x : V) (s : St) : Option (V × St) :=
  match x with
  | .sl .no [] => some (.tup [], s)
  | .msl id z off len =>
    match s.obs[id]? with
    | some (.arr t cs) =>
      if z = sz ∧ off + len * sz ≤ cs.length then some (.tup [], { s with obs := s.obs.set id (.arr t (putL cs off (List.replicate len zero.cells).flatten)) }) else none
    | _ => none
  | _ => none

/-- s[lo:hi:mx], of which nothing is kept. -/
def evSlc3 (sz : Nat) (x lo hi mx : V) (s : St) : Option V :=
  match x, bnd (some lo) 0, bnd (some hi) 0, bnd (some mx) 0 with
  | .msl id z off _, some l, some h, some m =>
    match s.obs[id]? with
    | some (.arr _ cs) => if z = sz ∧ 0 < sz ∧ l ≤ h ∧ h ≤ m ∧ off + m * sz ≤ cs.length then some .junk else none
    | _ => none
  | _, _, _, _ => none

def evMxn (max : Bool) (x y : V) : Option V :=
  match x, y with
  | .int k a, .int k' b => if k = k' then some (.int k (if max then (if b > a then b else a) else (if b < a then b else a))) else none
  | _, _ => none

def evLoad (n : Option Nat) (x : V) (s : St) : Option (V × St) :=
  match x with
  | .ptr id off =>
    match s.obs[id]? with
    | some (.cells _ cs) => (takeN n (cs.drop off)).map fun v => (v, s)
    | some (.arr _ cs) => (takeN n (cs.drop off)).map fun v => (v, s)
    | _ => none
  | .ept cs => (takeN n cs).map fun v => (v, s)
  | _ => none

def evStore (n : Nat) (p x : V) (s : St) : Option (V × St) :=
  match p with
  | .ptr id off =>
    match s.obs[id]? with
    | some (.cells t cs) =>
      if x.cells.length = n ∧ off + n ≤ cs.length ∧ x.cells.all V.one = true then
        some (.tup [], { s with obs := s.obs.set id (.cells t (putL cs off x.cells)) })
      else none
    | some (.arr t cs) =>
      if x.cells.length = n ∧ off + n ≤ cs.length ∧ x.cells.all V.one = true then
        some (.tup [], { s with obs := s.obs.set id (.arr t (putL cs off x.cells)) })
      else none
    | _ => none
  | _ => none

def evLookup (kk : Nat) (zero : V) (ok : Bool) (m k : V) (s : St) : Option (V × St) :=
  match m with
  | .mnil => if keyOk kk k = true then (evLook zero ok [] k).map fun v => (v, s) else none
  | .map id =>
    match s.obs[id]? with
    | some (.map es _) => if keyOk kk k = true then (evLook zero ok es k).map fun v => (v, s) else none
    | _ => none
  | _ => none

def evMupd (kk : Nat) (m k x : V) (s : St) : Option (V × St) :=
  match m with
  | .map id =>
    match s.obs[id]? with
    | some (.map es clock) =>
      if keyOk kk k = true then
        match find k es with
        | some (some _) => some (.tup [], { s with obs := s.obs.set id (.map (setKey k x es) clock) })
        | some none => some (.tup [], { s with obs := s.obs.set id (.map (es ++ [(k, x, clock)]) (clock + 1)) })
        | none => none
      else none
    | _ => none
  | _ => none

def evMent (kk : Nat) (z m k : V) (s : St) : Option (V × St) :=
  match m with
  | .map id =>
    match s.obs[id]? with
    | some (.map es clock) =>
      if keyOk kk k = true then
        match find k es with
        | some (some (v, b)) => some (.tup [v, .int .i64 b], s)
        | some none => some (.tup [z, .int .i64 clock], { s with obs := s.obs.set id (.map (es ++ [(k, z, clock)]) (clock + 1)) })
        | none => none
      else none
    | _ => none
  | _ => none

def evEst (m b x : V) (s : St) : Option (V × St) :=
  match m, b with
  | .map id, .int _ n =>
    match s.obs[id]? with
    | some (.map es clock) =>
      if 0 ≤ n then
        (setBorn n.toNat x es).map fun es' => (.tup [], { s with obs := s.obs.set id (.map es' clock) })
      else none
    | _ => none
  | _, _ => none

def evNxt (x : V) (s : St) : Option (V × St) :=
  match x with
  | .itr id =>
    match s.obs[id]? with
    | some (.iter b pos) =>
      if pos < b.length then
        some (.tup [.bool true, .int .i64 pos, .int .i32 (Utf8.decode ⟨b.toArray⟩ pos).1],
          { s with obs := s.obs.set id (.iter b (pos + (Utf8.decode ⟨b.toArray⟩ pos).2)) })
      else some (.tup [.bool false], s)
    | _ => none
  | _ => none

def evLen (kk : Nat) (x : V) (s : St) : Option (V × St) :=
  match kk, x with
  | 0, .str b => some (.int .i64 b.length, s)
  | 1, .sl _ xs => some (.int .i64 xs.length, s)
  | 1, .msl _ _ _ len => some (.int .i64 len, s)
  | 2, .mnil => some (.int .i64 0, s)
  | 2, .map id =>
    match s.obs[id]? with
    | some (.map es _) => some (.int .i64 es.length, s)
    | _ => none
  | _, _ => none

def eqCell : Nat → V → V → Option Bool
  | 0, .int k a, .int k' b => if k = k' then some (decide (a = b)) else none
  | 1, .bool a, .bool b => some (a == b)
  | 2, .str a, .str b => some (decide (a = b))
  | _, _, _ => none

def eqCells : List Nat → List V → List V → Option Bool
  | [], [], [] => some true
  | k :: ks, v :: vs, w :: ws =>
    match eqCell k v w, eqCells ks vs ws with
    | some a, some b => some (a && b)
    | _, _ => none
  | _, _, _ => none

def evEqs (neg : Bool) (ks : List Nat) (x y : V) : Option V :=
  match x, y with
  | .agg xs, .agg ys => (eqCells ks xs ys).map fun b => .bool (b != neg)
  | _, _ => none

def evOp (op : AOp) (env : Env) (s : St) : Option (V × St) :=
  match op with
  | .mov x => some (x.ev env, s)
  | .nilb by_ => some (.sl (.buf s.bufs.length) [], { s with bufs := s.bufs ++ [(0, by_)] })
  | .pick c a b =>
    match c.ev env with
    | .bool t => some (if t = true then a.ev env else b.ev env, s)
    | _ => none
  | .new t cs => some (.ptr s.obs.length 0, { s with obs := s.obs ++ [.cells t cs] })
  | .box t x => if (x.ev env).real = true then some (.ptr s.obs.length 0, { s with obs := s.obs ++ [.cells t (x.ev env).cells] }) else none
  | .build zero parts => (fillL zero (parts.map fun p => (p.1, p.2.1, p.2.2.ev env))).map fun cs => (.agg cs, s)
  | .bsl sz zero n parts =>
    (fillS sz (List.replicate n zero) (parts.map fun p => (p.1, (p.2.ev env).plain))).map fun xs => (.sl (if n = 0 then .emp else .no) xs, s)
  | .eqs neg ks x y => (evEqs neg ks (x.ev env) (y.ev env)).map fun v => (v, s)
  | .eqn sl neg x =>
    match sl, x.ev env with
    | false, .nilI => some (.bool (!neg), s)
    | false, .ifc _ _ => some (.bool neg, s)
    | true, .sl .nil [] => some (.bool (!neg), s)
    | true, .sl .emp [] => some (.bool neg, s)
    | true, .sl _ (_ :: _) => some (.bool neg, s)
    | true, .msl _ _ _ _ => some (.bool neg, s)
    | _, _ => none
  | .load n x => evLoad n (x.ev env) s
  | .store n p x => evStore n (p.ev env) (x.ev env) s
  | .nilchk x =>
    match x.ev env with
    | .ptr id off => some (.ptr id off, s)
    | .ept cs => some (.ept cs, s)
    | .fn (.func f) a b => some (.fn (.func f) a b, s)
    | _ => none
  | .bin op x y => (evBin op (x.ev env) (y.ev env)).map fun v => (v, s)
  | .eqb neg x y =>
    match x.ev env, y.ev env with
    | .bool a, .bool b => some (.bool ((a == b) != neg), s)
    | _, _ => none
  | .eqp neg x y => (evEqp neg (x.ev env) (y.ev env)).map fun v => (v, s)
  | .un op x => (evUn op (x.ev env)).map fun v => (v, s)
  | .cvI k x =>
    match x.ev env with
    | .int _ n => some (.int k (k.wrap n), s)
    | _ => none
  | .cvS x =>
    match x.ev env with
    | .str b => some (.str b, s)
    | _ => none
  | .mkfn f first cap => some (.fn f (first.map (·.ev env)) (cap.map (·.ev env)), s)
  | .mkmap => some (.map s.obs.length, { s with obs := s.obs ++ [.map [] 0] })
  | .slcS x lo hi => (evSlcS (x.ev env) (lo.map (·.ev env)) (hi.map (·.ev env))).map fun v => (v, s)
  | .slc sz x lo hi => (evSlc sz (x.ev env) (lo.map (·.ev env)) (hi.map (·.ev env)) s).map fun v => (v, s)
  | .fadr off x =>
    match x.ev env with
    | .ptr id o => some (.ptr id (o + off), s)
    | .ept cs => some (.ept (cs.drop off), s)
    | _ => none
  | .fld off n x =>
    match x.ev env with
    | .agg cs => (takeN n (cs.drop off)).map fun v => (v, s)
    | _ => none
  | .iadr sz x i =>
    match x.ev env, i.ev env with
    | .sl _ xs, .int _ n =>
      if 0 ≤ n then
        match xs[n.toNat]? with
        | some v => if v.cells.length = sz then some (.ept v.cells, s) else none
        | none => none
      else none
    | .msl id z off len, .int _ n => if z = sz ∧ 0 ≤ n ∧ n < len then some (.ptr id (off + n.toNat * sz), s) else none
    | .slx i z xs, .int _ n => if z = sz ∧ n = (xs.length : Int) then some (.spp i sz xs.length, s) else none
    | _, _ => none
  | .idx x i =>
    match x.ev env, i.ev env with
    | .str b, .int _ n =>
      if 0 ≤ n then
        match b[n.toNat]? with
        | some c => some (.int .u8 c.toNat, s)
        | none => none
      else none
    | _, _ => none
  | .ext x i =>
    match x.ev env with
    | .tup vs => (vs[i]?).map fun v => (v, s)
    | _ => none
  | .len kk x => evLen kk (x.ev env) s
  | .app str sz by_ x y => evApp str sz by_ (x.ev env) (y.ev env) s
  | .appz sz by_ x y => evAppz sz by_ (x.ev env) (y.ev env) s
  | .stz n p x => evStz n (p.ev env) (x.ev env) s
  | .appm sz by_ x y => evAppm sz by_ (x.ev env) (y.ev env) s
  | .mks sz by_ z x y => evMks sz by_ z (x.ev env) (y.ev env) s
  | .slc3 sz x lo hi mx => (evSlc3 sz (x.ev env) (lo.ev env) (hi.ev env) (mx.ev env) s).map fun v => (v, s)
  | .clr sz z x => evClr sz z (x.ev env) s
  | .mxn m x y => (evMxn m (x.ev env) (y.ev env)).map fun v => (v, s)
  | .look kk zero ok m k => evLookup kk zero ok (m.ev env) (k.ev env) s
  | .mupd kk m k v => evMupd kk (m.ev env) (k.ev env) (v.ev env) s
  | .ment kk zero m k => evMent kk zero (m.ev env) (k.ev env) s
  | .est m b v => evEst (m.ev env) (b.ev env) (v.ev env) s
  | .rng x =>
    match x.ev env with
    | .str b => some (.itr s.obs.length, { s with obs := s.obs ++ [.iter b 0] })
    | _ => none
  | .nxt x => evNxt (x.ev env) s
  | .ifc t x => some (.ifc t (x.ev env), s)
  | .b2s x =>
    match x.ev env with
    | .sl _ xs => (bytesOf xs).map fun b => (.str b, s)
    | _ => none
  | .i2s x =>
    match x.ev env with
    | .int _ n => some (.str (Utf8.encode n).data.toList, s)
    | _ => none
  | .sdata x =>
    match x.ev env with
    | .sl .nil [] => some (.pnil, s)
    | .sl (.buf i) xs => if (s.bufs[i]?).map (fun q => (q.1, decide (q.2.1 < pendF))) = some (xs.length, true) then some (if xs.length = 0 then .pnil else .dat i xs, s) else none
    | _ => none
  | .ustr e x n =>
    match x.ev env, n.ev env with
    | .pnil, .int .i64 n => if n = 0 then some (.str [], s) else none
    | .dat i xs, .int .i64 n =>
      if (s.bufs[i]?).map (fun q => (q.1, q.2.2)) = some (xs.length, e) ∧ (s.bufs[i]?).map (fun q => decide (q.2.1 < pendF)) = some true ∧ n = xs.length ∧ xs.length ≤ room then (bytesOf xs).map fun b => (.str b, s) else none
    | _, _ => none
  | .pu x =>
    match x.ev env with
    | .ptr id off =>
      match s.obs[id]? with
      | some (.cells _ cs) => if off < cs.length then some (.ptr id off, s) else none
      | _ => none
    | _ => none
  | .up u n x =>
    match x.ev env with
    | .ptr id off =>
      match s.obs[id]? with
      | some (.cells t cs) => if t = u ∧ off = 0 ∧ cs.length = n then some (.ptr id off, s) else none
      | _ => none
    | _ => none
  | .call _ _ _ _ | .sc _ _ _ _ _ => none

inductive AExit where
  | norm | exit (id : Nat) | ret

/-- Objects that were there stay what they were, or name nothing new. -/
def SameOr (n b : Nat) (l l' : List AObj) : Prop := ∀ i, i < n → l'[i]? = l[i]? ∨ ∀ o, l'[i]? = some o → o.und n b = true

open Classical in
/-- What a call leaves: its own objects are dropped where nothing names them any more. -/
noncomputable def fin (keep : Bool) (s s' : St) (r : V) : V × St :=
  if keep then (r, s')
  else if s'.obs.take s.obs.length = s.obs ∧ r.plain.und s.obs.length 0 = true then
    (r.plain, ⟨s.obs, s'.bufs.take s.bufs.length⟩)
  else if s'.obs.take s.obs.length = s.obs ∧ (tellV s'.obs s.obs.length r.plain).und s.obs.length 0 = true then
    (tellV s'.obs s.obs.length r.plain, ⟨s.obs, s'.bufs.take s.bufs.length⟩)
  else if SameOr s.obs.length s'.bufs.length s.obs s'.obs ∧ r.plain.und s.obs.length 0 = true then
    (r.plain, ⟨s'.obs.take s.obs.length, s'.bufs⟩)
  else (r.plain, s')

/-- What names objects from n on is forgotten. -/
def scrub (n b : Nat) (env : Env) : Env := fun t => if (env t).und n b then env t else .junk

open Classical in
noncomputable def finLoop (gc : Bool) (s s' : St) (env : Env) : Env × St :=
  if gc = true ∧ SameOr s.obs.length s'.bufs.length s.obs s'.obs then
    (scrub s.obs.length s'.bufs.length env, ⟨s'.obs.take s.obs.length, s'.bufs⟩)
  else (env, s')

def resOf (s : St) (env : Env) : List ARes → Option (List V)
  | [] => some []
  | .tmp t :: r => (resOf s env r).map (env t :: ·)
  | .cell t n :: r =>
    match env t with
    | .ptr id off =>
      match s.obs[id]? with
      | some (.cells _ cs) =>
        match takeN n (cs.drop off) with
        | some v => (resOf s env r).map (v :: ·)
        | none => none
      | _ => none
    | _ => none

def packR : List V → V
  | [v] => v
  | vs => .tup vs

structure Gp where
  tab : FuncId → Option AFunc
  prim : FuncId → Option (List V → St → Option (V × St))

def initEnv (args : List V) : Env := fun t => args.getD t (.tup [])

open Classical in
/-- A quiet call's end. -/
noncomputable def quiet (qu : Bool) (s : St) (args : List V) (r : V × St) : Option (V × St) := if qu = true → r.2 = s ∧ undL s.obs.length s.bufs.length args = true then some r else none

/-- What code, rows and calls come to. -/
structure Ev where
  c : ACode → Env → St → Option (AExit × Env × St)
  r : List ARow → Env → St → Option (Env × St)
  f : FuncId → List V → St → Option (V × St)

/-- Pointers to two objects. -/
def apart : V → V → Bool
  | .ptr a _, .ptr b _ => a != b
  | .ptr _ _, .ept _ => true
  | .ept _, .ptr _ _ => true
  | .ept _, .ept _ => true
  | _, _ => false
/-- All that the first names stands ahead of what the second points to. -/
def under : V → V → Bool
  | .junk, _ => false
  | a, .ptr id _ => decide (a.top ≤ id)
  | _, .ept _ => true
  | _, _ => false
/-- A pair of slots; a second one from a million on: 'under'. -/
def apart2 (p : Nat × Nat) (env : Env) : Bool := if p.2 < 1000000 then apart (env p.1) (env p.2) else if p.2 < 2000000 then under (env (p.2 - 1000000)) (env p.1) else true
def aparts (aps : List (Nat × Nat)) (env : Env) : Bool := aps.all fun p => apart2 p env

/-- A framed call: what it is given, and what it hands back, names nothing but the first n objects, and they name nothing else. -/
structure FrOk (n : Nat) (s : St) (args : List V) (r : V × St) : Prop where
  le : n ≤ s.obs.length
  args : undL n 0 args = true
  old : ∀ o ∈ s.obs.take n, o.und n 0 = true ∧ o.kind ≠ 4
  res : r.1.und n 0 = true
  new : ∀ o ∈ r.2.obs, o.und n 0 = true
  kind : r.2.obs.map AObj.kind = (s.obs.take n).map AObj.kind

/-- The store that a framed call is given. -/
def frIn (s : St) (args : List V) : St := ⟨s.obs.take (topL args), []⟩

open Classical in
/-- A framed call's end: the other objects, and the buffers, are as they were. -/
noncomputable def frOut (s : St) (args : List V) (r : V × St) : Option (V × St) :=
  if FrOk (topL args) s args r then some (r.1, ⟨r.2.obs ++ s.obs.drop (topL args), s.bufs⟩) else none

noncomputable def stepC (E : Ev) (c : ACode) (env : Env) (s : St) : Option (AExit × Env × St) :=
  match c with
  | .skip => some (.norm, env, s)
  | .halt => none
  | .reg rows => E.r rows env s >>= fun r => some (.norm, r.1, r.2)
  | .regD aps rows => E.r rows env s >>= fun r => if aparts aps r.1 = true then some (.norm, tells aps r.1 r.2) else none
  | .seq a b => E.c a env s >>= fun r =>
    match r.1 with
    | .norm => E.c b r.2.1 r.2.2
    | _ => some r
  | .cond x a b =>
    match x.ev env with
    | .bool t => if t = true then E.c a env s else E.c b env s
    | _ => none
  | .blk id c => E.c c env s >>= fun r =>
    match r.1 with
    | .exit id' => if id' = id then some (.norm, r.2) else some r
    | _ => some r
  | .loop gc c => E.c c env s >>= fun r =>
    match r.1 with
    | .norm => E.c (.loop gc c) (finLoop gc s r.2.2 r.2.1).1 (finLoop gc s r.2.2 r.2.1).2
    | _ => some r
  | .scope c => E.c c env s
  | .exit id => some (.exit id, env, s)
  | .ret => some (.ret, env, s)

/-- One operation. -/
noncomputable def stepO (E : Ev) (op : AOp) (env : Env) (s : St) : Option (V × St) :=
  match op with
  | .call own qu f args =>
    match f.ev env with
    | .fn (.func f) first cap =>
      if (own && qu) = true then
        E.f f (first ++ args.map (fun x => (x.ev env).plain) ++ cap) (frIn s (first ++ args.map (fun x => (x.ev env).plain) ++ cap)) >>= fun r => frOut s (first ++ args.map (fun x => (x.ev env).plain) ++ cap) r
      else E.f f (first ++ args.map (fun x => if own then x.ev env else (x.ev env).plain) ++ cap) s >>= fun r => quiet qu s (first ++ args.map (fun x => if own then x.ev env else (x.ev env).plain) ++ cap) r
    | _ => none
  | .sc t and a rows b =>
    match a.ev env with
    | .bool c =>
      if c = and then E.r rows (upd env t (.bool c)) s >>= fun q => some (b.ev q.1, q.2) else some (.bool (!and), s)
    | _ => none
  | op => evOp op env s

noncomputable def stepRows (E : Ev) (rows : List ARow) (env : Env) (s : St) : Option (Env × St) :=
  match rows with
  | [] => some (env, s)
  | r :: rs => stepO E r.op env s >>= fun q => E.r rs (put (kill env (dstsO r.op)) r.dst q.1) q.2

noncomputable def stepF (G : Gp) (E : Ev) (f : FuncId) (args : List V) (s : St) : Option (V × St) :=
  match G.prim f with
  | some p => p args s
  | none =>
    match G.tab f with
    | none => none
    | some F =>
      E.c F.body (initEnv args) s >>= fun r =>
        match r.1 with
        | .exit _ => none
        | _ => resOf r.2.2 r.2.1 F.res >>= fun vs => some (fin F.keep s r.2.2 (packR vs))

noncomputable def stepE (G : Gp) (E : Ev) : Ev := ⟨stepC E, stepRows E, stepF G E⟩

/-- So many levels deep. -/
noncomputable def evn (G : Gp) : Nat → Ev
  | 0 => ⟨fun _ _ _ => none, fun _ _ _ => none, fun _ _ _ => none⟩
  | n + 1 => stepE G (evn G n)

structure Ev.Le (E E' : Ev) : Prop where
  c : ∀ {c env s r}, E.c c env s = some r → E'.c c env s = some r
  r : ∀ {rows env s r}, E.r rows env s = some r → E'.r rows env s = some r
  f : ∀ {f args s r}, E.f f args s = some r → E'.f f args s = some r

theorem bind_mono {α β : Type _} {x x' : Option α} {k k' : α → Option β} {r : β} (h : (x >>= k) = some r) (hx : ∀ a, x = some a → x' = some a)
    (hk : ∀ a, k a = some r → k' a = some r) : (x' >>= k') = some r := by
  cases x with
  | none => cases h
  | some a => rw [hx a rfl]; exact hk a h

theorem stepC_mono {E E' : Ev} (h : E.Le E') {c : ACode} {env : Env} {s : St} {r : AExit × Env × St} (he : stepC E c env s = some r) : stepC E' c env s = some r := by
  cases c with
  | skip => exact he
  | halt => exact he
  | reg rows => exact bind_mono he (fun _ q => h.r q) (fun _ q => q)
  | regD aps rows => exact bind_mono he (fun _ q => h.r q) (fun _ q => q)
  | seq a b =>
    refine bind_mono he (fun _ q => h.c q) (fun q hq => ?_)
    obtain ⟨ex, q⟩ := q
    cases ex with
    | norm => exact h.c hq
    | _ => exact hq
  | cond x a b =>
    simp only [stepC] at he ⊢
    split at he
    · rename_i t hx
      cases t with
      | true => exact h.c he
      | false => exact h.c he
    · cases he
  | blk i c => exact bind_mono he (fun _ q => h.c q) (fun _ q => q)
  | loop gc a =>
    refine bind_mono he (fun _ q => h.c q) (fun q hq => ?_)
    obtain ⟨ex, q⟩ := q
    cases ex with
    | norm => exact h.c hq
    | _ => exact hq
  | scope a => exact h.c he
  | exit i => exact he
  | ret => exact he

theorem stepO_mono {E E' : Ev} (h : E.Le E') {op : AOp} {env : Env} {s : St} {r : V × St} (he : stepO E op env s = some r) : stepO E' op env s = some r := by
  cases op with
  | call own qu f args =>
    simp only [stepO] at he ⊢
    split at he
    · split at he
      · rename_i hc
        rw [if_pos hc]
        exact bind_mono he (fun _ q => h.f q) (fun _ q => q)
      · rename_i hc
        rw [if_neg hc]
        exact bind_mono he (fun _ q => h.f q) (fun _ q => q)
    · cases he
  | sc t and a rows b =>
    simp only [stepO] at he ⊢
    split at he
    · split at he
      · rename_i hc
        rw [if_pos hc]
        exact bind_mono he (fun _ q => h.r q) (fun _ q => q)
      · rename_i hc
        rw [if_neg hc]; exact he
    · cases he
  | _ => exact he

theorem stepRows_mono {E E' : Ev} (h : E.Le E') {rows : List ARow} {env : Env} {s : St} {r : Env × St} (he : stepRows E rows env s = some r) : stepRows E' rows env s = some r := by
  cases rows with
  | nil => exact he
  | cons row rs => exact bind_mono he (fun _ q => stepO_mono h q) (fun _ q => h.r q)

theorem stepF_mono {G : Gp} {E E' : Ev} (h : E.Le E') {f : FuncId} {args : List V} {s : St} {r : V × St} (he : stepF G E f args s = some r) : stepF G E' f args s = some r := by
  simp only [stepF] at he ⊢
  split at he
  · exact he
  · split at he
    · cases he
    · exact bind_mono he (fun _ q => h.c q) (fun _ q => q)

theorem stepE_mono {G : Gp} {E E' : Ev} (h : E.Le E') : (stepE G E).Le (stepE G E') := ⟨stepC_mono h, stepRows_mono h, stepF_mono h⟩

theorem evn_succ (G : Gp) : ∀ n, (evn G n).Le (evn G (n + 1))
  | 0 => ⟨fun h => (nomatch h), fun h => (nomatch h), fun h => (nomatch h)⟩
  | n + 1 => stepE_mono (evn_succ G n)

theorem evn_mono (G : Gp) {n m : Nat} (h : n ≤ m) : (evn G n).Le (evn G m) := by
  induction h with
  | refl => exact ⟨fun h => h, fun h => h, fun h => h⟩
  | step _ ih => exact ⟨fun h => (evn_succ G _).c (ih.c h), fun h => (evn_succ G _).r (ih.r h), fun h => (evn_succ G _).f (ih.f h)⟩

open Classical in
noncomputable def lim {α : Type} (g : Nat → Option α) : Option α := if h : ∃ n r, g n = some r then g h.choose else none

theorem lim_some {α : Type} {g : Nat → Option α} (hg : ∀ n m r, n ≤ m → g n = some r → g m = some r) (r : α) : lim g = some r ↔ ∃ n, g n = some r := by
  unfold lim
  constructor
  · intro h
    split at h
    · exact ⟨_, h⟩
    · cases h
  · rintro ⟨n, hn⟩
    have hx : ∃ n r, g n = some r := ⟨n, r, hn⟩
    rw [dif_pos hx]
    obtain ⟨r', hr'⟩ := hx.choose_spec
    rw [hr']
    have h1 := hg _ (max n hx.choose) _ (by omega) hr'
    have h2 := hg _ (max n hx.choose) _ (by omega) hn
    rw [h1] at h2
    exact h2

noncomputable def evC (G : Gp) (c : ACode) (env : Env) (s : St) : Option (AExit × Env × St) := lim fun n => (evn G n).c c env s
noncomputable def evR (G : Gp) (rows : List ARow) (env : Env) (s : St) : Option (Env × St) := lim fun n => (evn G n).r rows env s
noncomputable def call (G : Gp) (f : FuncId) (args : List V) (s : St) : Option (V × St) := lim fun n => (evn G n).f f args s

theorem evC_some {G : Gp} {c : ACode} {env : Env} {s : St} {r : AExit × Env × St} : evC G c env s = some r ↔ ∃ n, (evn G n).c c env s = some r :=
  lim_some (fun _ _ _ h q => (evn_mono G h).c q) r
theorem evR_some {G : Gp} {rows : List ARow} {env : Env} {s : St} {r : Env × St} : evR G rows env s = some r ↔ ∃ n, (evn G n).r rows env s = some r :=
  lim_some (fun _ _ _ h q => (evn_mono G h).r q) r
theorem call_some {G : Gp} {f : FuncId} {args : List V} {s : St} {r : V × St} : call G f args s = some r ↔ ∃ n, (evn G n).f f args s = some r :=
  lim_some (fun _ _ _ h q => (evn_mono G h).f q) r

noncomputable def evL (G : Gp) : Ev := ⟨evC G, evR G, call G⟩

theorem evn_le (G : Gp) (n : Nat) : (evn G n).Le (evL G) := ⟨fun h => evC_some.2 ⟨n, h⟩, fun h => evR_some.2 ⟨n, h⟩, fun h => call_some.2 ⟨n, h⟩⟩

theorem bind_lim {α β : Type} {x : Option α} {g : Nat → Option α} {k : α → Option β} {kk : Nat → α → Option β} {r : β} (h : (x >>= k) = some r)
    (hg : ∀ n m r, n ≤ m → g n = some r → g m = some r) (hkk : ∀ n m a r, n ≤ m → kk n a = some r → kk m a = some r)
    (hx : ∀ a, x = some a → ∃ n, g n = some a) (hk : ∀ a, k a = some r → ∃ n, kk n a = some r) : ∃ n, (g n >>= kk n) = some r := by
  cases x with
  | none => cases h
  | some a =>
    obtain ⟨n, hn⟩ := hx a rfl
    obtain ⟨m, hm⟩ := hk a h
    refine ⟨max n m, ?_⟩
    rw [hg n _ a (by omega) hn]
    exact hkk m _ a r (by omega) hm

theorem stepC_lim {G : Gp} {c : ACode} {env : Env} {s : St} {r : AExit × Env × St} (he : stepC (evL G) c env s = some r) : ∃ n, stepC (evn G n) c env s = some r := by
  have mc : ∀ {c env s} n m r, n ≤ m → (evn G n).c c env s = some r → (evn G m).c c env s = some r := fun _ _ _ h q => (evn_mono G h).c q
  have mr : ∀ {c env s} n m r, n ≤ m → (evn G n).r c env s = some r → (evn G m).r c env s = some r := fun _ _ _ h q => (evn_mono G h).r q
  cases c with
  | skip => exact ⟨0, he⟩
  | halt => exact ⟨0, he⟩
  | reg rows => exact bind_lim (g := fun n => (evn G n).r rows env s) (kk := fun _ q => some (AExit.norm, q.1, q.2)) he mr (fun _ _ _ _ _ q => q) (fun _ q => evR_some.1 q) (fun _ q => ⟨0, q⟩)
  | regD aps rows => exact bind_lim (g := fun n => (evn G n).r rows env s) (kk := fun _ q => if aparts aps q.1 = true then some (AExit.norm, tells aps q.1 q.2) else none) he mr (fun _ _ _ _ _ q => q) (fun _ q => evR_some.1 q) (fun _ q => ⟨0, q⟩)
  | seq a b =>
    refine bind_lim (g := fun n => (evn G n).c a env s) (kk := fun n r => match r.1 with | .norm => (evn G n).c b r.2.1 r.2.2 | _ => some r) he mc ?_ (fun _ q => evC_some.1 q) ?_
    · intro n m q r h hq
      obtain ⟨ex, q⟩ := q
      cases ex with
      | norm => exact mc n m r h hq
      | _ => exact hq
    · intro q hq
      obtain ⟨ex, q⟩ := q
      cases ex with
      | norm => exact evC_some.1 hq
      | _ => exact ⟨0, hq⟩
  | cond x a b =>
    simp only [stepC] at he ⊢
    split at he
    · rename_i t hx
      cases t with
      | true => exact evC_some.1 he
      | false => exact evC_some.1 he
    · cases he
  | blk i c => exact bind_lim (g := fun n => (evn G n).c c env s) (kk := fun _ r => match r.1 with | .exit id' => if id' = i then some (.norm, r.2) else some r | _ => some r) he mc (fun _ _ _ _ _ q => q) (fun _ q => evC_some.1 q) (fun _ q => ⟨0, q⟩)
  | loop gc a =>
    refine bind_lim (g := fun n => (evn G n).c a env s) (kk := fun n r => match r.1 with | .norm => (evn G n).c (.loop gc a) (finLoop gc s r.2.2 r.2.1).1 (finLoop gc s r.2.2 r.2.1).2 | _ => some r) he mc ?_ (fun _ q => evC_some.1 q) ?_
    · intro n m q r h hq
      obtain ⟨ex, q⟩ := q
      cases ex with
      | norm => exact mc n m r h hq
      | _ => exact hq
    · intro q hq
      obtain ⟨ex, q⟩ := q
      cases ex with
      | norm => exact evC_some.1 hq
      | _ => exact ⟨0, hq⟩
  | scope a => exact evC_some.1 he
  | exit i => exact ⟨0, he⟩
  | ret => exact ⟨0, he⟩

theorem stepO_lim {G : Gp} {op : AOp} {env : Env} {s : St} {r : V × St} (he : stepO (evL G) op env s = some r) : ∃ n, stepO (evn G n) op env s = some r := by
  have mr : ∀ {c env s} n m r, n ≤ m → (evn G n).r c env s = some r → (evn G m).r c env s = some r := fun _ _ _ h q => (evn_mono G h).r q
  have mf : ∀ {c env s} n m r, n ≤ m → (evn G n).f c env s = some r → (evn G m).f c env s = some r := fun _ _ _ h q => (evn_mono G h).f q
  cases op with
  | call own qu f args =>
    simp only [stepO] at he ⊢
    split at he
    · split at he
      · rename_i hc
        simp only [if_pos hc]
        exact bind_lim (g := fun n => (evn G n).f _ _ _) (kk := fun _ q => frOut s _ q) he mf (fun _ _ _ _ _ q => q) (fun _ q => call_some.1 q) (fun _ q => ⟨0, q⟩)
      · rename_i hc
        simp only [if_neg hc]
        exact bind_lim (g := fun n => (evn G n).f _ _ s) (kk := fun _ q => quiet qu s _ q) he mf (fun _ _ _ _ _ q => q) (fun _ q => call_some.1 q) (fun _ q => ⟨0, q⟩)
    · cases he
  | sc t and a rows b =>
    simp only [stepO] at he ⊢
    split at he
    · split at he
      · rename_i hc
        simp only [if_pos hc]
        exact bind_lim (g := fun n => (evn G n).r rows _ s) (kk := fun _ q => some (b.ev q.1, q.2)) he mr (fun _ _ _ _ _ q => q) (fun _ q => evR_some.1 q) (fun _ q => ⟨0, q⟩)
      · rename_i hc
        simp only [if_neg hc]; exact ⟨0, he⟩
    · cases he
  | _ => exact ⟨0, he⟩

theorem stepRows_lim {G : Gp} {rows : List ARow} {env : Env} {s : St} {r : Env × St} (he : stepRows (evL G) rows env s = some r) : ∃ n, stepRows (evn G n) rows env s = some r := by
  cases rows with
  | nil => exact ⟨0, he⟩
  | cons row rs =>
    exact bind_lim (g := fun n => stepO (evn G n) row.op env s) (kk := fun n q => (evn G n).r rs (put (kill env (dstsO row.op)) row.dst q.1) q.2) he
      (fun _ _ _ h q => stepO_mono (evn_mono G h) q) (fun _ _ _ _ h q => (evn_mono G h).r q) (fun _ q => stepO_lim q) (fun _ q => evR_some.1 q)

theorem stepF_lim {G : Gp} {f : FuncId} {args : List V} {s : St} {r : V × St} (he : stepF G (evL G) f args s = some r) : ∃ n, stepF G (evn G n) f args s = some r := by
  simp only [stepF] at he ⊢
  split at he
  · exact ⟨0, he⟩
  · split at he
    · cases he
    · exact bind_lim (g := fun n => (evn G n).c _ _ s) (kk := fun _ r => match r.1 with | .exit _ => none | _ => resOf r.2.2 r.2.1 _ >>= fun vs => some (fin _ s r.2.2 (packR vs))) he
        (fun _ _ _ h q => (evn_mono G h).c q) (fun _ _ _ _ _ q => q) (fun _ q => evC_some.1 q) (fun _ q => ⟨0, q⟩)

theorem opt_ext {α : Type} {x y : Option α} (h : ∀ r, x = some r ↔ y = some r) : x = y := by
  cases x with
  | none => cases y with
    | none => rfl
    | some b => exact ((h b).2 rfl)
  | some a => exact ((h a).1 rfl).symm

theorem evC_eq (G : Gp) (c : ACode) (env : Env) (s : St) : evC G c env s = stepC (evL G) c env s := by
  refine opt_ext fun r => ⟨fun h => ?_, fun h => ?_⟩
  · obtain ⟨n, hn⟩ := evC_some.1 h
    cases n with
    | zero => cases hn
    | succ n => exact stepC_mono (evn_le G n) hn
  · obtain ⟨n, hn⟩ := stepC_lim h
    exact evC_some.2 ⟨n + 1, hn⟩
theorem evR_eq (G : Gp) (rows : List ARow) (env : Env) (s : St) : evR G rows env s = stepRows (evL G) rows env s := by
  refine opt_ext fun r => ⟨fun h => ?_, fun h => ?_⟩
  · obtain ⟨n, hn⟩ := evR_some.1 h
    cases n with
    | zero => cases hn
    | succ n => exact stepRows_mono (evn_le G n) hn
  · obtain ⟨n, hn⟩ := stepRows_lim h
    exact evR_some.2 ⟨n + 1, hn⟩
theorem call_eq (G : Gp) (f : FuncId) (args : List V) (s : St) : call G f args s = stepF G (evL G) f args s := by
  refine opt_ext fun r => ⟨fun h => ?_, fun h => ?_⟩
  · obtain ⟨n, hn⟩ := call_some.1 h
    cases n with
    | zero => cases hn
    | succ n => exact stepF_mono (evn_le G n) hn
  · obtain ⟨n, hn⟩ := stepF_lim h
    exact call_some.2 ⟨n + 1, hn⟩

theorem call_prim (G : Gp) (f : FuncId) (args : List V) (s : St) (p : List V → St → Option (V × St)) (h : G.prim f = some p) : call G f args s = p args s := by
  rw [call_eq]; simp only [stepF, h]

theorem frOut_some {s : St} {args : List V} {r q : V × St} (h : frOut s args r = some q) : FrOk (topL args) s args r ∧ q = (r.1, ⟨r.2.obs ++ s.obs.drop (topL args), s.bufs⟩) := by
  unfold frOut at h
  split at h
  · rename_i hc
    exact ⟨hc, (Option.some.inj h).symm⟩
  · cases h

theorem quiet_some {qu : Bool} {s : St} {args : List V} {r q : V × St} (h : quiet qu s args r = some q) : q = r ∧ (qu = true → r.2 = s ∧ undL s.obs.length s.bufs.length args = true) := by
  unfold quiet at h
  by_cases hc : qu = true → r.2 = s ∧ undL s.obs.length s.bufs.length args = true
  · rw [if_pos hc] at h
    exact ⟨(Option.some.inj h).symm, hc⟩
  · rw [if_neg hc] at h
    cases h

end Go.Proofs.YtboejpobmpfifaaGreatDoor.Eng
