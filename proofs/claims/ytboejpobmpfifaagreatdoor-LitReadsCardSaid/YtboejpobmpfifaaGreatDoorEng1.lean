/-
 The evaluator: abstract values (slices as lists, no memory), the code with its types resolved, and the function that runs it. No condition.
-/
import Derived.Calls
import Derived.Below
namespace Go.Proofs.YtboejpobmpfifaaGreatDoor.Eng
open Go
inductive Own where
 | no | nil | buf (i : Nat) | emp
inductive V where
 | junk
 | bool (b : Bool)
 | int (k : IntKind) (n : Int)
 | str (s : List UInt8)
 | nilF | nilI | pnil | mnil
 | fn (f : Fn) (first cap : List V)
 | sl (o : Own) (xs : List V)
 | msl (id sz off len : Nat)
 | agg (cs : List V)
 | tup (vs : List V)
 | ptr (id off : Nat)
 | ept (cs : List V)
 | map (id : Nat)
 | itr (id : Nat)
 | ifc (t : TypeId) (v : V)
 | dat (i : Nat) (xs : List V)
 | slx (i sz : Nat) (xs : List V)
 | spp (i sz n : Nat)
 | epz (i sz n : Nat) (cs : List V)
instance : Inhabited V := ⟨.junk⟩
def V.cells : V → List V
 | .agg cs => cs
 | v => [v]
def V.real : V → Bool
 | .junk => false
 | _ => true
def V.one : V → Bool
 | .junk | .agg _ | .tup _ | .dat _ _ | .spp _ _ _ | .epz _ _ _ _ => false
 | _ => true
mutual
def V.und (n b : Nat) : V → Bool
 | .fn _ xs ys => bY n b xs && bY n b ys
 | .sl (.buf i) xs => decide (i < b) && bY n b xs
 | .sl _ xs => bY n b xs
 | .agg cs => bY n b cs
 | .tup cs => bY n b cs
 | .ept cs => bY n b cs
 | .ptr id _ => decide (id < n)
 | .msl id _ _ _ => decide (id < n)
 | .map id => decide (id < n)
 | .itr id => decide (id < n)
 | .ifc _ v => v.und n b
 | .dat i xs => decide (i < b) && bY n b xs
 | .slx i _ xs => decide (i < b) && bY n b xs
 | .spp i _ _ => decide (i < b)
 | .epz i _ _ cs => decide (i < b) && bY n b cs
 | _ => true
def bY (n b : Nat) : List V → Bool
 | [] => true
 | v :: vs => v.und n b && bY n b vs
end
mutual
def V.plain : V → V
 | .fn f xs ys => .fn f (aW xs) (aW ys)
 | .sl _ xs => .sl .no (aW xs)
 | .agg cs => .agg (aW cs)
 | .tup cs => .tup (aW cs)
 | .ept cs => .ept (aW cs)
 | .ifc t v => .ifc t v.plain
 | .dat _ _ => .junk
 | .slx i sz xs => .slx i sz (aW xs)
 | .spp _ _ _ => .junk
 | .epz _ _ _ _ => .junk
 | v => v
def aW : List V → List V
 | [] => []
 | v :: vs => v.plain :: aW vs
end
inductive Qw where
 | cells (t : TypeId) (cs : List V)
 | map (es : List (V × V × Nat)) (clock : Nat)
 | iter (s : List UInt8) (pos : Nat)
 | arr (t : TypeId) (cs : List V)
 | dead
def Qw.und (n b : Nat) : Qw → Bool
 | .cells _ cs => bY n b cs
 | .map es _ => es.all fun e => e.1.und n b && e.2.1.und n b
 | .iter _ _ => true
 | .arr _ cs => bY n b cs
 | .dead => true
def Qw.kind : Qw → Nat
 | .cells _ _ => 0
 | .map _ _ => 1
 | .iter _ _ => 2
 | .arr _ _ => 3
 | .dead => 4
mutual
def V.top : V → Nat
 | .fn _ xs ys => max (eD xs) (eD ys)
 | .sl _ xs => eD xs
 | .agg cs => eD cs
 | .tup cs => eD cs
 | .ept cs => eD cs
 | .ptr id _ => id + 1
 | .msl id _ _ _ => id + 1
 | .map id => id + 1
 | .itr id => id + 1
 | .ifc _ v => v.top
 | .dat _ xs => eD xs
 | .slx _ _ xs => eD xs
 | .epz _ _ _ cs => eD cs
 | _ => 0
def eD : List V → Nat
 | [] => 0
 | v :: vs => max v.top (eD vs)
end
structure St where
 obs : List Qw
 bufs : List (Nat × Nat × TypeId)
inductive X where
 | tmp (t : Nat)
 | c (v : V)
mutual
inductive AOp where
 | mov (x : X)
 | nilb (bytes : Nat × TypeId)
 | pick (c a b : X)
 | new (t : TypeId) (cs : List V)
 | box (t : TypeId) (x : X)
 | build (zero : List V) (parts : List (Nat × Nat × X))
 | bsl (sz : Nat) (zero : V) (n : Nat) (parts : List (Nat × X))
 | load (n : Option Nat) (x : X)
 | store (n : Nat) (p x : X)
 | nilchk (x : X)
 | bin (op : BinOp) (x y : X)
 | eqb (neg : Bool) (x y : X)
 | eqp (neg : Bool) (x y : X)
 | eqs (neg : Bool) (ks : List Nat) (x y : X)
 | eqn (sl neg : Bool) (x : X)
 | un (op : UnOp) (x : X)
 | cvI (k : IntKind) (x : X)
 | cvS (x : X)
 | mkfn (fn : Fn) (first cap : List X)
 | mkmap
 | slcS (x : X) (lo hi : Option X)
 | slc (sz : Nat) (x : X) (lo hi : Option X)
 | fadr (off : Nat) (x : X)
 | fld (off : Nat) (n : Option Nat) (x : X)
 | iadr (sz : Nat) (x i : X)
 | idx (x i : X)
 | ext (x : X) (i : Nat)
 | len (kk : Nat) (x : X)
 | app (str : Bool) (sz : Nat) (bytes : Nat × TypeId) (x y : X)
 | appz (sz : Nat) (bytes : Nat × TypeId) (x y : X)
 | stz (n : Nat) (p x : X)
 | appm (sz : Nat) (bytes : Nat × TypeId) (x y : X)
 | mks (sz : Nat) (bytes : Nat × TypeId) (zero : V) (x y : X)
 | slc3 (sz : Nat) (x lo hi mx : X)
 | clr (sz : Nat) (zero : V) (x : X)
 | mxn (max : Bool) (x y : X)
 | look (kk : Nat) (zero : V) (ok : Bool) (m k : X)
 | mupd (kk : Nat) (m k v : X)
 | ment (kk : Nat) (zero : V) (m k : X)
 | est (m s v : X)
 | rng (x : X)
 | nxt (x : X)
 | ifc (t : TypeId) (x : X)
 | b2s (x : X)
 | i2s (x : X)
 | sdata (x : X)
 | ustr (e : TypeId) (x n : X)
 | pu (x : X)
 | up (u : TypeId) (n : Nat) (x : X)
 | call (own quiet : Bool) (f : X) (args : List X)
 | sc (t : Nat) (and : Bool) (a : X) (rows : List Qx) (b : X)
inductive Qx where
 | mk (dst : Option Nat) (op : AOp)
end
def Qx.dst : Qx → Option Nat | .mk d _ => d
def Qx.op : Qx → AOp | .mk _ o => o
mutual
def aF : AOp → List Nat
 | .sc t _ _ rows _ => t :: bQ rows
 | _ => []
def aG : Qx → List Nat
 | .mk d o => d.toList ++ aF o
def bQ : List Qx → List Nat
 | [] => []
 | r :: rs => aG r ++ bQ rs
end
inductive Qq where
 | skip
 | halt
 | reg (rows : List Qx)
 | regD (aps : List (Nat × Nat)) (rows : List Qx)
 | seq (a b : Qq)
 | cond (x : X) (a b : Qq)
 | blk (id : Nat) (c : Qq)
 | loop (gc : Bool) (c : Qq)
 | scope (c : Qq)
 | exit (id : Nat)
 | ret
inductive ARes where
 | tmp (t : Nat)
 | cell (t : Nat) (n : Option Nat)
structure Qz where
 ntmps : Nat
 res : List ARes
 body : Qq
 keep : Bool
abbrev Env := Nat → V
def upd (env : Env) (d : Nat) (v : V) : Env := fun t => if t = d then v else env t
def kill (env : Env) (ds : List Nat) : Env := fun t => if ds.contains t then .junk else env t
def put (env : Env) (d : Option Nat) (v : V) : Env :=
 match d with
 | some d => upd env d v
 | none => env
def X.ev (env : Env) : X → V
 | .tmp t => env t
 | .c v => v
def gN : Int := 9223372036854775807
def iJ : Nat := 2 ^ 47
def bM (op : BinOp) (k : IntKind) (a b : Int) : Option V :=
 match op with
 | .add => some (.int k (k.wrap (a + b)))
 | .sub => some (.int k (k.wrap (a - b)))
 | .mul => some (.int k (k.wrap (a * b)))
 | .quo => if b = 0 then none else some (.int k (k.wrap (a.tdiv b)))
 | .rem => if b = 0 then none else some (.int k (a.tmod b))
 | .and => some (.int k (k.wrap (BitVec.ofInt k.bits a &&& BitVec.ofInt k.bits b).toNat))
 | .or => some (.int k (k.wrap (BitVec.ofInt k.bits a ||| BitVec.ofInt k.bits b).toNat))
 | .xor => some (.int k (k.wrap (BitVec.ofInt k.bits a ^^^ BitVec.ofInt k.bits b).toNat))
 | .andNot => some (.int k (k.wrap (BitVec.ofInt k.bits a &&& ~~~BitVec.ofInt k.bits b).toNat))
 | .eql => some (.bool (decide (a = b)))
 | .neq => some (.bool (!decide (a = b)))
 | .lss => some (.bool (decide (a < b)))
 | .leq => some (.bool (decide (a ≤ b)))
 | .gtr => some (.bool (decide (b < a)))
 | .geq => some (.bool (decide (b ≤ a)))
 | _ => none
def fL (op : BinOp) (a b : List UInt8) : Option V :=
 match op with
 | .add => if ((a.length + b.length : Nat) : Int) ≤ gN then some (.str (a ++ b)) else none
 | .eql => some (.bool (decide (a = b)))
 | .neq => some (.bool (!decide (a = b)))
 | .lss => some (.bool (Op.bytesLess a b))
 | .leq => some (.bool (Op.bytesLess a b || decide (a = b)))
 | .gtr => some (.bool (!(Op.bytesLess a b || decide (a = b))))
 | .geq => some (.bool (!(Op.bytesLess a b)))
 | _ => none
def mZ (op : BinOp) (k : IntKind) (a b : Int) : Option V :=
 if b < 0 then none else
 match op with
 | .shl => some (.int k (k.wrap (a * 2 ^ (min b.toNat k.bits))))
 | .shr => some (.int k (a.fdiv (2 ^ (min b.toNat k.bits))))
 | _ => none
def kV : BinOp → Bool
 | .shl | .shr => true
 | _ => false
def gH (op : BinOp) (x y : V) : Option V :=
 match x, y with
 | .int k a, .int k' b => if kV op then mZ op k a b else if k = k' then bM op k a b else none
 | .str a, .str b => fL op a b
 | _, _ => none
def mB (op : UnOp) (x : V) : Option V :=
 match op, x with
 | .neg, .int k n => some (.int k (k.wrap (0 - n)))
 | .not, .bool b => some (.bool (!b))
 | _, _ => none
def aK (cs : List V) (off : Nat) : List V → List V
 | [] => cs
 | v :: vs => aK (cs.set off v) (off + 1) vs
def aI (cs : List V) : List (Nat × Nat × V) → Option (List V)
 | [] => some cs
 | (off, n, v) :: r => if v.real = true ∧ v.cells.length = n ∧ off + n ≤ cs.length then aI (aK cs off v.cells) r else none
def aY (sz : Nat) (xs : List V) : List (Nat × V) → Option (List V)
 | [] => some xs
 | (i, v) :: r => if v.cells.all V.one = true ∧ v.cells.length = sz ∧ i < xs.length then aY sz (xs.set i v) r else none
def eR (n : Option Nat) (cs : List V) : Option V :=
 match n with
 | none => cs.head?
 | some n => if n ≤ cs.length then some (.agg (cs.take n)) else none
def vP : V → V → Option Bool
 | .str a, .str b => some (decide (a = b))
 | .int k a, .int k' b => if k = k' then some (decide (a = b)) else none
 | .bool a, .bool b => some (decide (a = b))
 | _, _ => none
def find (k : V) : List (V × V × Nat) → Option (Option (V × Nat))
 | [] => some none
 | e :: es =>
  match vP k e.1 with
  | some true => some (some (e.2.1, e.2.2))
  | some false => find k es
  | none => none
def sZ (k v : V) : List (V × V × Nat) → List (V × V × Nat)
 | [] => []
 | e :: es => if vP k e.1 = some true then (e.1, v, e.2.2) :: es else e :: sZ k v es
def rX (b : Nat) (v : V) : List (V × V × Nat) → Option (List (V × V × Nat))
 | [] => none
 | e :: es => if e.2.2 = b then some ((e.1, v, e.2.2) :: es) else (rX b v es).map (e :: ·)
def mP : Nat → V → Bool
 | 0, .str _ => true
 | 1, .int _ _ => true
 | 2, .bool _ => true
 | _, _ => false
def aU (s : List UInt8) : List V := s.map fun b => .int .u8 b.toNat
def fX : Bool → V → Option (List V)
 | false, .sl _ ys => some ys
 | true, .str s => some (aU s)
 | _, _ => none
def fits (sz : Nat) : List V → Bool
 | [] => true
 | v :: _ => v.cells.length == sz
def gU (str : Bool) (sz : Nat) (by_ : Nat × TypeId) (x y : V) (s : St) : Option (V × St) :=
 match x, fX str y with
 | .sl o xs, some ys =>
  if ys.length = 0 then some (x, s)
  else if fits sz xs = true ∧ fits sz ys = true ∧ (xs.length + ys.length) * by_.1 ≤ iJ then
   match o with
   | .no => none
   | .nil =>
    if xs.length = 0 then some (.sl (.buf s.bufs.length) ys, { s with bufs := s.bufs ++ [(ys.length, by_)] }) else none
   | .emp =>
    if xs.length = 0 then some (.sl (.buf s.bufs.length) ys, { s with bufs := s.bufs ++ [(ys.length, by_)] }) else none
   | .buf i =>
    if s.bufs[i]? = some (xs.length, by_) then
     some (.sl (.buf i) (xs ++ ys), { s with bufs := s.bufs.set i (xs.length + ys.length, by_) })
    else none
  else none
 | _, _ => none
def bG : Nat := 1099511627776
def zU (sz : Nat) (by_ : Nat × TypeId) (x y : V) (s : St) : Option (V × St) :=
 match x, y with
 | .sl o xs, .sl _ [z] =>
  if fits sz xs = true ∧ fits sz [z] = true ∧ (xs.length + 1) * by_.1 ≤ iJ then
   match o with
   | .no => none
   | .nil => if xs.length = 0 then some (.slx s.bufs.length sz [], { s with bufs := s.bufs ++ [(0, by_.1 + bG, by_.2)] }) else none
   | .emp => if xs.length = 0 then some (.slx s.bufs.length sz [], { s with bufs := s.bufs ++ [(0, by_.1 + bG, by_.2)] }) else none
   | .buf i =>
    if s.bufs[i]? = some (xs.length, by_) then some (.slx i sz xs, { s with bufs := s.bufs.set i (xs.length, by_.1 + bG, by_.2) }) else none
  else none
 | _, _ => none
def Em (n : Nat) (p x : V) (s : St) : Option (V × St) :=
 match p with
 | .spp i sz k =>
  match s.bufs[i]? with
  | some (m, b, t) =>
   if m = k ∧ bG < b ∧ x.cells.length = n ∧ n = sz ∧ x.cells.all V.one = true then some (.epz i sz k x.cells, { s with bufs := s.bufs.set i (k + 1, b - bG, t) }) else none
  | none => none
 | _ => none
def tP (cs : List V) : V :=
 match cs with
 | [c] => c
 | cs => .agg cs
def told (x q : V) : V :=
 match x, q with
 | .slx i sz xs, .epz j sz' k cs => if i = j ∧ sz = sz' ∧ xs.length = k ∧ cs.length = sz ∧ cs.all V.one = true then .sl (.buf i) (xs ++ [tP cs]) else .slx i sz xs
 | x, _ => x
def DR (p q : V) (s : St) : St :=
 match p with
 | .ptr id off =>
  match s.obs[id]? with
  | some (.cells t cs) =>
   match cs[off]? with
   | some x => { s with obs := s.obs.set id (.cells t (cs.set off (told x q))) }
   | none => s
  | _ => s
 | _ => s
def kL : List (Nat × Nat) → Env → St → Env × St
 | [], env, s => (env, s)
 | p :: r, env, s =>
  if p.2 < 2000000 then kL r env s
  else if p.2 < 3000000 then kL r env (DR (env p.1) (env (p.2 - 2000000)) s)
  else kL r (upd env p.1 (told (env p.1) (env (p.2 - 3000000)))) s
def fY : List V → Option (List UInt8)
 | [] => some []
 | .int .u8 n :: xs => if 0 ≤ n ∧ n < 256 then (fY xs).map (UInt8.ofNat n.toNat :: ·) else none
 | _ => none
def bnd (x : Option V) (d : Nat) : Option Nat :=
 match x with
 | none => some d
 | some (.int _ n) => if 0 ≤ n then some n.toNat else none
 | _ => none
def bD (x : V) (lo hi : Option V) : Option V :=
 match x with
 | .str s =>
  match bnd lo 0, bnd hi s.length with
  | some l, some h => if l ≤ h ∧ h ≤ s.length then some (.str ((s.take h).drop l)) else none
  | _, _ => none
 | _ => none
def oL (sz : Nat) (x : V) (lo hi : Option V) (s : St) : Option V :=
 match x with
 | .msl id z off len =>
  match bnd lo 0, bnd hi len, s.obs[id]? with
  | some l, some h, some (.arr _ cs) =>
   if z = sz ∧ 0 < sz ∧ l ≤ h ∧ off + h * sz ≤ cs.length then
    some (if l = h ∧ l ≠ 0 then .sl .no [] else .msl id sz (off + l * sz) (h - l))
   else none
  | _, _, _ => none
 | .sl o xs =>
  match bnd lo 0, bnd hi xs.length with
  | some l, some h =>
   if l ≤ h ∧ h ≤ xs.length ∧ fits sz xs = true then
    some (if l = 0 ∧ h = xs.length then .sl o xs else .sl .no ((xs.take h).drop l))
   else none
  | _, _ => none
 | _ => none
def xR (neg : Bool) (x y : V) : Option V :=
 match x, y with
 | .pnil, .pnil => some (.bool (!neg))
 | .pnil, .ptr _ _ | .ptr _ _, .pnil => some (.bool neg)
 | .ptr a i, .ptr b j => if a = b then some (.bool (decide (i = j) != neg)) else none
 | _, _ => none
def zV (zero : V) (ok : Bool) (es : List (V × V × Nat)) (k : V) : Option V :=
 match find k es with
 | some (some (v, _)) => some (if ok then .tup [v, .bool true] else v)
 | some none => some (if ok then .tup [zero, .bool false] else zero)
 | none => none
def rY (sz : Nat) (y : V) (s : St) : Option (List V × Nat) :=
 match y with
 | .sl _ ys => if fits sz ys = true ∧ (ys.flatMap V.cells).all V.one = true ∧ (ys.all fun v => v.cells.length == sz) = true then some (ys.flatMap V.cells, ys.length) else none
 | .msl id z off len =>
  match s.obs[id]? with
  | some (.arr _ cs) => if z = sz ∧ off + len * sz ≤ cs.length ∧ ((cs.drop off).take (len * sz)).all V.one = true then some ((cs.drop off).take (len * sz), len) else none
  | _ => none
 | _ => none
def uW (sz : Nat) (by_ : Nat × TypeId) (x y : V) (s : St) : Option (V × St) :=
 match rY sz y s with
 | none => none
 | some (news, n) =>
  match x with
  | .sl .nil [] =>
   if n = 0 then some (x, s)
   else if n * by_.1 ≤ iJ then some (.msl s.obs.length sz 0 n, { s with obs := s.obs ++ [.arr by_.2 news] }) else none
  | .msl id z off len =>
   if n = 0 then some (x, s) else
   match s.obs[id]? with
   | some (.arr t cs) =>
    if z = sz ∧ t = by_.2 then
     if off + (len + n) * sz ≤ cs.length then some (.msl id sz off (len + n), { s with obs := s.obs.set id (.arr t (aK cs (off + len * sz) news)) })
     else if off = 0 ∧ len * sz = cs.length ∧ (len + n) * by_.1 ≤ iJ ∧ cs.all V.one = true then
      some (.msl s.obs.length sz 0 (len + n), { s with obs := s.obs.set id .dead ++ [.arr t (cs ++ news)] })
     else none
    else none
   | _ => none
  | _ => none
def GS (sz : Nat) (by_ : Nat × TypeId) (zero x y : V) (s : St) : Option (V × St) :=
 match x, y with
 | .int _ n, .int _ m => if m = n ∧ 0 ≤ n ∧ n.toNat * by_.1 ≤ iJ then some (.msl s.obs.length sz 0 n.toNat, { s with obs := s.obs ++ [.arr by_.2 (List.replicate n.toNat zero.cells).flatten] }) else none
 | _, _ => none
def GQ (sz : Nat) (zero x : V) (s : St) : Option (V × St) :=
 match x with
 | .sl .no [] => some (.tup [], s)
 | .msl id z off len =>
  match s.obs[id]? with
  | some (.arr t cs) =>
   if z = sz ∧ off + len * sz ≤ cs.length then some (.tup [], { s with obs := s.obs.set id (.arr t (aK cs off (List.replicate len zero.cells).flatten)) }) else none
  | _ => none
 | _ => none
def vA (sz : Nat) (x lo hi mx : V) (s : St) : Option V :=
 match x, bnd (some lo) 0, bnd (some hi) 0, bnd (some mx) 0 with
 | .msl id z off _, some l, some h, some m =>
  match s.obs[id]? with
  | some (.arr _ cs) => if z = sz ∧ 0 < sz ∧ l ≤ h ∧ h ≤ m ∧ off + m * sz ≤ cs.length then some .junk else none
  | _ => none
 | _, _, _, _ => none
def kK (max : Bool) (x y : V) : Option V :=
 match x, y with
 | .int k a, .int k' b => if k = k' then some (.int k (if max then (if b > a then b else a) else (if b < a then b else a))) else none
 | _, _ => none
def bR (n : Option Nat) (x : V) (s : St) : Option (V × St) :=
 match x with
 | .ptr id off =>
  match s.obs[id]? with
  | some (.cells _ cs) => (eR n (cs.drop off)).map fun v => (v, s)
  | some (.arr _ cs) => (eR n (cs.drop off)).map fun v => (v, s)
  | _ => none
 | .ept cs => (eR n cs).map fun v => (v, s)
 | _ => none
def aB (n : Nat) (p x : V) (s : St) : Option (V × St) :=
 match p with
 | .ptr id off =>
  match s.obs[id]? with
  | some (.cells t cs) =>
   if x.cells.length = n ∧ off + n ≤ cs.length ∧ x.cells.all V.one = true then
    some (.tup [], { s with obs := s.obs.set id (.cells t (aK cs off x.cells)) })
   else none
  | some (.arr t cs) =>
   if x.cells.length = n ∧ off + n ≤ cs.length ∧ x.cells.all V.one = true then
    some (.tup [], { s with obs := s.obs.set id (.arr t (aK cs off x.cells)) })
   else none
  | _ => none
 | _ => none
def mL (kk : Nat) (zero : V) (ok : Bool) (m k : V) (s : St) : Option (V × St) :=
 match m with
 | .mnil => if mP kk k = true then (zV zero ok [] k).map fun v => (v, s) else none
 | .map id =>
  match s.obs[id]? with
  | some (.map es _) => if mP kk k = true then (zV zero ok es k).map fun v => (v, s) else none
  | _ => none
 | _ => none
def CG (kk : Nat) (m k x : V) (s : St) : Option (V × St) :=
 match m with
 | .map id =>
  match s.obs[id]? with
  | some (.map es clock) =>
   if mP kk k = true then
    match find k es with
    | some (some _) => some (.tup [], { s with obs := s.obs.set id (.map (sZ k x es) clock) })
    | some none => some (.tup [], { s with obs := s.obs.set id (.map (es ++ [(k, x, clock)]) (clock + 1)) })
    | none => none
   else none
  | _ => none
 | _ => none
def CF (kk : Nat) (z m k : V) (s : St) : Option (V × St) :=
 match m with
 | .map id =>
  match s.obs[id]? with
  | some (.map es clock) =>
   if mP kk k = true then
    match find k es with
    | some (some (v, b)) => some (.tup [v, .int .i64 b], s)
    | some none => some (.tup [z, .int .i64 clock], { s with obs := s.obs.set id (.map (es ++ [(k, z, clock)]) (clock + 1)) })
    | none => none
   else none
  | _ => none
 | _ => none
def GR (m b x : V) (s : St) : Option (V × St) :=
 match m, b with
 | .map id, .int _ n =>
  match s.obs[id]? with
  | some (.map es clock) =>
   if 0 ≤ n then
    (rX n.toNat x es).map fun es' => (.tup [], { s with obs := s.obs.set id (.map es' clock) })
   else none
  | _ => none
 | _, _ => none
def uY (x : V) (s : St) : Option (V × St) :=
 match x with
 | .itr id =>
  match s.obs[id]? with
  | some (.iter b pos) =>
   if pos < b.length then
    some (.tup [.bool true, .int .i64 pos, .int .i32 (Utf8.decode ⟨b.toArray⟩ pos).1],
     { s with obs := s.obs.set id (.iter b (pos + (Utf8.decode ⟨b.toArray⟩ pos).2)) })
   else some (.tup [.bool false], s)
  | _ => none
 | _ => none
def fU (kk : Nat) (x : V) (s : St) : Option (V × St) :=
 match kk, x with
 | 0, .str b => some (.int .i64 b.length, s)
 | 1, .sl _ xs => some (.int .i64 xs.length, s)
 | 1, .msl _ _ _ len => some (.int .i64 len, s)
 | 2, .mnil => some (.int .i64 0, s)
 | 2, .map id =>
  match s.obs[id]? with
  | some (.map es _) => some (.int .i64 es.length, s)
  | _ => none
 | _, _ => none
def nI : Nat → V → V → Option Bool
 | 0, .int k a, .int k' b => if k = k' then some (decide (a = b)) else none
 | 1, .bool a, .bool b => some (a == b)
 | 2, .str a, .str b => some (decide (a = b))
 | _, _, _ => none
def kN : List Nat → List V → List V → Option Bool
 | [], [], [] => some true
 | k :: ks, v :: vs, w :: ws =>
  match nI k v w, kN ks vs ws with
  | some a, some b => some (a && b)
  | _, _ => none
 | _, _, _ => none
def xS (neg : Bool) (ks : List Nat) (x y : V) : Option V :=
 match x, y with
 | .agg xs, .agg ys => (kN ks xs ys).map fun b => .bool (b != neg)
 | _, _ => none
def aZ (op : AOp) (env : Env) (s : St) : Option (V × St) :=
 match op with
 | .mov x => some (x.ev env, s)
 | .nilb by_ => some (.sl (.buf s.bufs.length) [], { s with bufs := s.bufs ++ [(0, by_)] })
 | .pick c a b =>
  match c.ev env with
  | .bool t => some (if t = true then a.ev env else b.ev env, s)
  | _ => none
 | .new t cs => some (.ptr s.obs.length 0, { s with obs := s.obs ++ [.cells t cs] })
 | .box t x => if (x.ev env).real = true then some (.ptr s.obs.length 0, { s with obs := s.obs ++ [.cells t (x.ev env).cells] }) else none
 | .build zero parts => (aI zero (parts.map fun p => (p.1, p.2.1, p.2.2.ev env))).map fun cs => (.agg cs, s)
 | .bsl sz zero n parts =>
  (aY sz (List.replicate n zero) (parts.map fun p => (p.1, (p.2.ev env).plain))).map fun xs => (.sl (if n = 0 then .emp else .no) xs, s)
 | .eqs neg ks x y => (xS neg ks (x.ev env) (y.ev env)).map fun v => (v, s)
 | .eqn sl neg x =>
  match sl, x.ev env with
  | false, .nilI => some (.bool (!neg), s)
  | false, .ifc _ _ => some (.bool neg, s)
  | true, .sl .nil [] => some (.bool (!neg), s)
  | true, .sl .emp [] => some (.bool neg, s)
  | true, .sl _ (_ :: _) => some (.bool neg, s)
  | true, .msl _ _ _ _ => some (.bool neg, s)
  | _, _ => none
 | .load n x => bR n (x.ev env) s
 | .store n p x => aB n (p.ev env) (x.ev env) s
 | .nilchk x =>
  match x.ev env with
  | .ptr id off => some (.ptr id off, s)
  | .ept cs => some (.ept cs, s)
  | .fn (.func f) a b => some (.fn (.func f) a b, s)
  | _ => none
 | .bin op x y => (gH op (x.ev env) (y.ev env)).map fun v => (v, s)
 | .eqb neg x y =>
  match x.ev env, y.ev env with
  | .bool a, .bool b => some (.bool ((a == b) != neg), s)
  | _, _ => none
 | .eqp neg x y => (xR neg (x.ev env) (y.ev env)).map fun v => (v, s)
 | .un op x => (mB op (x.ev env)).map fun v => (v, s)
 | .cvI k x =>
  match x.ev env with
  | .int _ n => some (.int k (k.wrap n), s)
  | _ => none
 | .cvS x =>
  match x.ev env with
  | .str b => some (.str b, s)
  | _ => none
 | .mkfn f first cap => some (.fn f (first.map (·.ev env)) (cap.map (·.ev env)), s)
 | .mkmap => some (.map s.obs.length, { s with obs := s.obs ++ [.map [] 0] })
 | .slcS x lo hi => (bD (x.ev env) (lo.map (·.ev env)) (hi.map (·.ev env))).map fun v => (v, s)
 | .slc sz x lo hi => (oL sz (x.ev env) (lo.map (·.ev env)) (hi.map (·.ev env)) s).map fun v => (v, s)
 | .fadr off x =>
  match x.ev env with
  | .ptr id o => some (.ptr id (o + off), s)
  | .ept cs => some (.ept (cs.drop off), s)
  | _ => none
 | .fld off n x =>
  match x.ev env with
  | .agg cs => (eR n (cs.drop off)).map fun v => (v, s)
  | _ => none
 | .iadr sz x i =>
  match x.ev env, i.ev env with
  | .sl _ xs, .int _ n =>
   if 0 ≤ n then
    match xs[n.toNat]? with
    | some v => if v.cells.length = sz then some (.ept v.cells, s) else none
    | none => none
   else none
  | .msl id z off len, .int _ n => if z = sz ∧ 0 ≤ n ∧ n < len then some (.ptr id (off + n.toNat * sz), s) else none
  | .slx i z xs, .int _ n => if z = sz ∧ n = (xs.length : Int) then some (.spp i sz xs.length, s) else none
  | _, _ => none
 | .idx x i =>
  match x.ev env, i.ev env with
  | .str b, .int _ n =>
   if 0 ≤ n then
    match b[n.toNat]? with
    | some c => some (.int .u8 c.toNat, s)
    | none => none
   else none
  | _, _ => none
 | .ext x i =>
  match x.ev env with
  | .tup vs => (vs[i]?).map fun v => (v, s)
  | _ => none
 | .len kk x => fU kk (x.ev env) s
 | .app str sz by_ x y => gU str sz by_ (x.ev env) (y.ev env) s
 | .appz sz by_ x y => zU sz by_ (x.ev env) (y.ev env) s
 | .stz n p x => Em n (p.ev env) (x.ev env) s
 | .appm sz by_ x y => uW sz by_ (x.ev env) (y.ev env) s
 | .mks sz by_ z x y => GS sz by_ z (x.ev env) (y.ev env) s
 | .slc3 sz x lo hi mx => (vA sz (x.ev env) (lo.ev env) (hi.ev env) (mx.ev env) s).map fun v => (v, s)
 | .clr sz z x => GQ sz z (x.ev env) s
 | .mxn m x y => (kK m (x.ev env) (y.ev env)).map fun v => (v, s)
 | .look kk zero ok m k => mL kk zero ok (m.ev env) (k.ev env) s
 | .mupd kk m k v => CG kk (m.ev env) (k.ev env) (v.ev env) s
 | .ment kk zero m k => CF kk zero (m.ev env) (k.ev env) s
 | .est m b v => GR (m.ev env) (b.ev env) (v.ev env) s
 | .rng x =>
  match x.ev env with
  | .str b => some (.itr s.obs.length, { s with obs := s.obs ++ [.iter b 0] })
  | _ => none
 | .nxt x => uY (x.ev env) s
 | .ifc t x => some (.ifc t (x.ev env), s)
 | .b2s x =>
  match x.ev env with
  | .sl _ xs => (fY xs).map fun b => (.str b, s)
  | _ => none
 | .i2s x =>
  match x.ev env with
  | .int _ n => some (.str (Utf8.encode n).data.toList, s)
  | _ => none
 | .sdata x =>
  match x.ev env with
  | .sl .nil [] => some (.pnil, s)
  | .sl (.buf i) xs => if (s.bufs[i]?).map (fun q => (q.1, decide (q.2.1 < bG))) = some (xs.length, true) then some (if xs.length = 0 then .pnil else .dat i xs, s) else none
  | _ => none
 | .ustr e x n =>
  match x.ev env, n.ev env with
  | .pnil, .int .i64 n => if n = 0 then some (.str [], s) else none
  | .dat i xs, .int .i64 n =>
   if (s.bufs[i]?).map (fun q => (q.1, q.2.2)) = some (xs.length, e) ∧ (s.bufs[i]?).map (fun q => decide (q.2.1 < bG)) = some true ∧ n = xs.length ∧ xs.length ≤ iJ then (fY xs).map fun b => (.str b, s) else none
  | _, _ => none
 | .pu x =>
  match x.ev env with
  | .ptr id off =>
   match s.obs[id]? with
   | some (.cells _ cs) => if off < cs.length then some (.ptr id off, s) else none
   | _ => none
  | _ => none
 | .up u n x =>
  match x.ev env with
  | .ptr id off =>
   match s.obs[id]? with
   | some (.cells t cs) => if t = u ∧ off = 0 ∧ cs.length = n then some (.ptr id off, s) else none
   | _ => none
  | _ => none
 | .call _ _ _ _ | .sc _ _ _ _ _ => none
inductive Qg where
 | norm | exit (id : Nat) | ret
def Gr (n b : Nat) (l l' : List Qw) : Prop := ∀ i, i < n → l'[i]? = l[i]? ∨ ∀ o, l'[i]? = some o → o.und n b = true
open Classical in
noncomputable def fin (keep : Bool) (s s' : St) (r : V) : V × St :=
 if keep then (r, s')
 else if s'.obs.take s.obs.length = s.obs ∧ r.plain.und s.obs.length 0 = true then
  (r.plain, ⟨s.obs, s'.bufs.take s.bufs.length⟩)
 else if Gr s.obs.length s'.bufs.length s.obs s'.obs ∧ r.plain.und s.obs.length 0 = true then
  (r.plain, ⟨s'.obs.take s.obs.length, s'.bufs⟩)
 else (r.plain, s')
def Kd (n b : Nat) (env : Env) : Env := fun t => if (env t).und n b then env t else .junk
open Classical in
noncomputable def fC (gc : Bool) (s s' : St) (env : Env) : Env × St :=
 if gc = true ∧ Gr s.obs.length s'.bufs.length s.obs s'.obs then
  (Kd s.obs.length s'.bufs.length env, ⟨s'.obs.take s.obs.length, s'.bufs⟩)
 else (env, s')
def fE (s : St) (env : Env) : List ARes → Option (List V)
 | [] => some []
 | .tmp t :: r => (fE s env r).map (env t :: ·)
 | .cell t n :: r =>
  match env t with
  | .ptr id off =>
   match s.obs[id]? with
   | some (.cells _ cs) =>
    match eR n (cs.drop off) with
    | some v => (fE s env r).map (v :: ·)
    | none => none
   | _ => none
  | _ => none
def gB : List V → V
 | [v] => v
 | vs => .tup vs
structure Gp where
 tab : FuncId → Option Qz
 prim : FuncId → Option (List V → St → Option (V × St))
def cF (args : List V) : Env := fun t => args.getD t (.tup [])
open Classical in
noncomputable def quiet (qu : Bool) (s : St) (args : List V) (r : V × St) : Option (V × St) := if qu = true → r.2 = s ∧ bY s.obs.length s.bufs.length args = true then some r else none
structure Ev where
 c : Qq → Env → St → Option (Qg × Env × St)
 r : List Qx → Env → St → Option (Env × St)
 f : FuncId → List V → St → Option (V × St)
def cE : V → V → Bool
 | .ptr a _, .ptr b _ => a != b
 | .ptr _ _, .ept _ => true
 | .ept _, .ptr _ _ => true
 | .ept _, .ept _ => true
 | _, _ => false
def kC : V → V → Bool
 | .junk, _ => false
 | a, .ptr id _ => decide (a.top ≤ id)
 | _, .ept _ => true
 | _, _ => false
def uM (p : Nat × Nat) (env : Env) : Bool := if p.2 < 1000000 then cE (env p.1) (env p.2) else if p.2 < 2000000 then kC (env (p.2 - 1000000)) (env p.1) else true
def fP (aps : List (Nat × Nat)) (env : Env) : Bool := aps.all fun p => uM p env
structure FrOk (n : Nat) (s : St) (args : List V) (r : V × St) : Prop where
 le : n ≤ s.obs.length
 args : bY n 0 args = true
 old : ∀ o ∈ s.obs.take n, o.und n 0 = true ∧ o.kind ≠ 4
 res : r.1.und n 0 = true
 new : ∀ o ∈ r.2.obs, o.und n 0 = true
 kind : r.2.obs.map Qw.kind = (s.obs.take n).map Qw.kind
def vF (s : St) (args : List V) : St := ⟨s.obs.take (eD args), []⟩
open Classical in
noncomputable def vH (s : St) (args : List V) (r : V × St) : Option (V × St) :=
 if FrOk (eD args) s args r then some (r.1, ⟨r.2.obs ++ s.obs.drop (eD args), s.bufs⟩) else none
noncomputable def gK (E : Ev) (c : Qq) (env : Env) (s : St) : Option (Qg × Env × St) :=
 match c with
 | .skip => some (.norm, env, s)
 | .halt => none
 | .reg rows => E.r rows env s >>= fun r => some (.norm, r.1, r.2)
 | .regD aps rows => E.r rows env s >>= fun r => if fP aps r.1 = true then some (.norm, kL aps r.1 r.2) else none
 | .seq a b => E.c a env s >>= fun r =>
  match r.1 with
  | .norm => E.c b r.2.1 r.2.2
  | _ => some r
 | .cond x a b =>
  match x.ev env with
  | .bool t => if t = true then E.c a env s else E.c b env s
  | _ => none
 | .blk id c => E.c c env s >>= fun r =>
  match r.1 with
  | .exit id' => if id' = id then some (.norm, r.2) else some r
  | _ => some r
 | .loop gc c => E.c c env s >>= fun r =>
  match r.1 with
  | .norm => E.c (.loop gc c) (fC gc s r.2.2 r.2.1).1 (fC gc s r.2.2 r.2.1).2
  | _ => some r
 | .scope c => E.c c env s
 | .exit id => some (.exit id, env, s)
 | .ret => some (.ret, env, s)
noncomputable def lY (E : Ev) (op : AOp) (env : Env) (s : St) : Option (V × St) :=
 match op with
 | .call own qu f args =>
  match f.ev env with
  | .fn (.func f) first cap =>
   if (own && qu) = true then
    E.f f (first ++ args.map (fun x => (x.ev env).plain) ++ cap) (vF s (first ++ args.map (fun x => (x.ev env).plain) ++ cap)) >>= fun r => vH s (first ++ args.map (fun x => (x.ev env).plain) ++ cap) r
   else E.f f (first ++ args.map (fun x => if own then x.ev env else (x.ev env).plain) ++ cap) s >>= fun r => quiet qu s (first ++ args.map (fun x => if own then x.ev env else (x.ev env).plain) ++ cap) r
  | _ => none
 | .sc t and a rows b =>
  match a.ev env with
  | .bool c =>
   if c = and then E.r rows (upd env t (.bool c)) s >>= fun q => some (b.ev q.1, q.2) else some (.bool (!and), s)
  | _ => none
 | op => aZ op env s
noncomputable def iA (E : Ev) (rows : List Qx) (env : Env) (s : St) : Option (Env × St) :=
 match rows with
 | [] => some (env, s)
 | r :: rs => lY E r.op env s >>= fun q => E.r rs (put (kill env (aF r.op)) r.dst q.1) q.2
noncomputable def oC (G : Gp) (E : Ev) (f : FuncId) (args : List V) (s : St) : Option (V × St) :=
 match G.prim f with
 | some p => p args s
 | none =>
  match G.tab f with
  | none => none
  | some F =>
   E.c F.body (cF args) s >>= fun r =>
    match r.1 with
    | .exit _ => none
    | _ => fE r.2.2 r.2.1 F.res >>= fun vs => some (fin F.keep s r.2.2 (gB vs))
noncomputable def Ia (G : Gp) (E : Ev) : Ev := ⟨gK E, iA E, oC G E⟩
noncomputable def evn (G : Gp) : Nat → Ev
 | 0 => ⟨fun _ _ _ => none, fun _ _ _ => none, fun _ _ _ => none⟩
 | n + 1 => Ia G (evn G n)
structure Ev.Le (E E' : Ev) : Prop where
 c : ∀ {c env s r}, E.c c env s = some r → E'.c c env s = some r
 r : ∀ {rows env s r}, E.r rows env s = some r → E'.r rows env s = some r
 f : ∀ {f args s r}, E.f f args s = some r → E'.f f args s = some r
theorem gE {α β : Type _} {x x' : Option α} {k k' : α → Option β} {r : β} (h : (x >>= k) = some r) (hx : ∀ a, x = some a → x' = some a)
  (hk : ∀ a, k a = some r → k' a = some r) : (x' >>= k') = some r := by
 cases x with
 | none => cases h
 | some a => rw [hx a rfl]; exact hk a h
theorem wO {E E' : Ev} (h : E.Le E') {c : Qq} {env : Env} {s : St} {r : Qg × Env × St} (he : gK E c env s = some r) : gK E' c env s = some r := by
 cases c with
 | skip => exact he
 | halt => exact he
 | reg rows => exact gE he (fun _ q => h.r q) (fun _ q => q)
 | regD aps rows => exact gE he (fun _ q => h.r q) (fun _ q => q)
 | seq a b =>
  refine gE he (fun _ q => h.c q) (fun q hq => ?_)
  obtain ⟨ex, q⟩ := q
  cases ex with
  | norm => exact h.c hq
  | _ => exact hq
 | cond x a b =>
  simp only [gK] at he ⊢
  split at he
  ·rename_i t hx
   cases t with
   | true => exact h.c he
   | false => exact h.c he
  ·cases he
 | blk i c => exact gE he (fun _ q => h.c q) (fun _ q => q)
 | loop gc a =>
  refine gE he (fun _ q => h.c q) (fun q hq => ?_)
  obtain ⟨ex, q⟩ := q
  cases ex with
  | norm => exact h.c hq
  | _ => exact hq
 | scope a => exact h.c he
 | exit i => exact he
 | ret => exact he
theorem wQ {E E' : Ev} (h : E.Le E') {op : AOp} {env : Env} {s : St} {r : V × St} (he : lY E op env s = some r) : lY E' op env s = some r := by
 cases op with
 | call own qu f args =>
  simp only [lY] at he ⊢
  split at he
  ·split at he
   ·rename_i hc
    rw [if_pos hc]
    exact gE he (fun _ q => h.f q) (fun _ q => q)
   ·rename_i hc
    rw [if_neg hc]
    exact gE he (fun _ q => h.f q) (fun _ q => q)
  ·cases he
 | sc t and a rows b =>
  simp only [lY] at he ⊢
  split at he
  ·split at he
   ·rename_i hc
    rw [if_pos hc]
    exact gE he (fun _ q => h.r q) (fun _ q => q)
   ·rename_i hc
    rw [if_neg hc]; exact he
  ·cases he
 | _ => exact he
theorem qH {E E' : Ev} (h : E.Le E') {rows : List Qx} {env : Env} {s : St} {r : Env × St} (he : iA E rows env s = some r) : iA E' rows env s = some r := by
 cases rows with
 | nil => exact he
 | cons row rs => exact gE he (fun _ q => wQ h q) (fun _ q => h.r q)
theorem wP {G : Gp} {E E' : Ev} (h : E.Le E') {f : FuncId} {args : List V} {s : St} {r : V × St} (he : oC G E f args s = some r) : oC G E' f args s = some r := by
 simp only [oC] at he ⊢
 split at he
 ·exact he
 ·split at he
  ·cases he
  ·exact gE he (fun _ q => h.c q) (fun _ q => q)
theorem DI {G : Gp} {E E' : Ev} (h : E.Le E') : (Ia G E).Le (Ia G E') := ⟨wO h, qH h, wP h⟩
theorem rC (G : Gp) : ∀ n, (evn G n).Le (evn G (n + 1))
 | 0 => ⟨fun h => (nomatch h), fun h => (nomatch h), fun h => (nomatch h)⟩
 | n + 1 => DI (rC G n)
theorem hH (G : Gp) {n m : Nat} (h : n ≤ m) : (evn G n).Le (evn G m) := by
 induction h with
 | refl => exact ⟨fun h => h, fun h => h, fun h => h⟩
 | step _ ih => exact ⟨fun h => (rC G _).c (ih.c h), fun h => (rC G _).r (ih.r h), fun h => (rC G _).f (ih.f h)⟩
open Classical in
noncomputable def lim {α : Type} (g : Nat → Option α) : Option α := if h : ∃ n r, g n = some r then g h.choose else none
theorem vR {α : Type} {g : Nat → Option α} (hg : ∀ n m r, n ≤ m → g n = some r → g m = some r) (r : α) : lim g = some r ↔ ∃ n, g n = some r := by
 unfold lim
 constructor
 ·intro h
  split at h
  ·exact ⟨_, h⟩
  ·cases h
 ·rintro ⟨n, hn⟩
  have hx : ∃ n r, g n = some r := ⟨n, r, hn⟩
  rw [dif_pos hx]
  obtain ⟨r', hr'⟩ := hx.choose_spec
  rw [hr']
  have h1 := hg _ (max n hx.choose) _ (by omega) hr'
  have h2 := hg _ (max n hx.choose) _ (by omega) hn
  rw [h1] at h2
  exact h2
noncomputable def evC (G : Gp) (c : Qq) (env : Env) (s : St) : Option (Qg × Env × St) := lim fun n => (evn G n).c c env s
noncomputable def evR (G : Gp) (rows : List Qx) (env : Env) (s : St) : Option (Env × St) := lim fun n => (evn G n).r rows env s
noncomputable def call (G : Gp) (f : FuncId) (args : List V) (s : St) : Option (V × St) := lim fun n => (evn G n).f f args s
theorem evC_some {G : Gp} {c : Qq} {env : Env} {s : St} {r : Qg × Env × St} : evC G c env s = some r ↔ ∃ n, (evn G n).c c env s = some r :=
 vR (fun _ _ _ h q => (hH G h).c q) r
theorem evR_some {G : Gp} {rows : List Qx} {env : Env} {s : St} {r : Env × St} : evR G rows env s = some r ↔ ∃ n, (evn G n).r rows env s = some r :=
 vR (fun _ _ _ h q => (hH G h).r q) r
theorem call_some {G : Gp} {f : FuncId} {args : List V} {s : St} {r : V × St} : call G f args s = some r ↔ ∃ n, (evn G n).f f args s = some r :=
 vR (fun _ _ _ h q => (hH G h).f q) r
noncomputable def evL (G : Gp) : Ev := ⟨evC G, evR G, call G⟩
theorem CI (G : Gp) (n : Nat) : (evn G n).Le (evL G) := ⟨fun h => evC_some.2 ⟨n, h⟩, fun h => evR_some.2 ⟨n, h⟩, fun h => call_some.2 ⟨n, h⟩⟩
theorem gZ {α β : Type} {x : Option α} {g : Nat → Option α} {k : α → Option β} {kk : Nat → α → Option β} {r : β} (h : (x >>= k) = some r)
  (hg : ∀ n m r, n ≤ m → g n = some r → g m = some r) (hkk : ∀ n m a r, n ≤ m → kk n a = some r → kk m a = some r)
  (hx : ∀ a, x = some a → ∃ n, g n = some a) (hk : ∀ a, k a = some r → ∃ n, kk n a = some r) : ∃ n, (g n >>= kk n) = some r := by
 cases x with
 | none => cases h
 | some a =>
  obtain ⟨n, hn⟩ := hx a rfl
  obtain ⟨m, hm⟩ := hk a h
  refine ⟨max n m, ?_⟩
  rw [hg n _ a (by omega) hn]
  exact hkk m _ a r (by omega) hm
theorem Ga {G : Gp} {c : Qq} {env : Env} {s : St} {r : Qg × Env × St} (he : gK (evL G) c env s = some r) : ∃ n, gK (evn G n) c env s = some r := by
 have mc : ∀ {c env s} n m r, n ≤ m → (evn G n).c c env s = some r → (evn G m).c c env s = some r := fun _ _ _ h q => (hH G h).c q
 have mr : ∀ {c env s} n m r, n ≤ m → (evn G n).r c env s = some r → (evn G m).r c env s = some r := fun _ _ _ h q => (hH G h).r q
 cases c with
 | skip => exact ⟨0, he⟩
 | halt => exact ⟨0, he⟩
 | reg rows => exact gZ (g := fun n => (evn G n).r rows env s) (kk := fun _ q => some (Qg.norm, q.1, q.2)) he mr (fun _ _ _ _ _ q => q) (fun _ q => evR_some.1 q) (fun _ q => ⟨0, q⟩)
 | regD aps rows => exact gZ (g := fun n => (evn G n).r rows env s) (kk := fun _ q => if fP aps q.1 = true then some (Qg.norm, kL aps q.1 q.2) else none) he mr (fun _ _ _ _ _ q => q) (fun _ q => evR_some.1 q) (fun _ q => ⟨0, q⟩)
 | seq a b =>
  refine gZ (g := fun n => (evn G n).c a env s) (kk := fun n r => match r.1 with | .norm => (evn G n).c b r.2.1 r.2.2 | _ => some r) he mc ?_ (fun _ q => evC_some.1 q) ?_
  ·intro n m q r h hq
   obtain ⟨ex, q⟩ := q
   cases ex with
   | norm => exact mc n m r h hq
   | _ => exact hq
  ·intro q hq
   obtain ⟨ex, q⟩ := q
   cases ex with
   | norm => exact evC_some.1 hq
   | _ => exact ⟨0, hq⟩
 | cond x a b =>
  simp only [gK] at he ⊢
  split at he
  ·rename_i t hx
   cases t with
   | true => exact evC_some.1 he
   | false => exact evC_some.1 he
  ·cases he
 | blk i c => exact gZ (g := fun n => (evn G n).c c env s) (kk := fun _ r => match r.1 with | .exit id' => if id' = i then some (.norm, r.2) else some r | _ => some r) he mc (fun _ _ _ _ _ q => q) (fun _ q => evC_some.1 q) (fun _ q => ⟨0, q⟩)
 | loop gc a =>
  refine gZ (g := fun n => (evn G n).c a env s) (kk := fun n r => match r.1 with | .norm => (evn G n).c (.loop gc a) (fC gc s r.2.2 r.2.1).1 (fC gc s r.2.2 r.2.1).2 | _ => some r) he mc ?_ (fun _ q => evC_some.1 q) ?_
  ·intro n m q r h hq
   obtain ⟨ex, q⟩ := q
   cases ex with
   | norm => exact mc n m r h hq
   | _ => exact hq
  ·intro q hq
   obtain ⟨ex, q⟩ := q
   cases ex with
   | norm => exact evC_some.1 hq
   | _ => exact ⟨0, hq⟩
 | scope a => exact evC_some.1 he
 | exit i => exact ⟨0, he⟩
 | ret => exact ⟨0, he⟩
theorem Gc {G : Gp} {op : AOp} {env : Env} {s : St} {r : V × St} (he : lY (evL G) op env s = some r) : ∃ n, lY (evn G n) op env s = some r := by
 have mr : ∀ {c env s} n m r, n ≤ m → (evn G n).r c env s = some r → (evn G m).r c env s = some r := fun _ _ _ h q => (hH G h).r q
 have mf : ∀ {c env s} n m r, n ≤ m → (evn G n).f c env s = some r → (evn G m).f c env s = some r := fun _ _ _ h q => (hH G h).f q
 cases op with
 | call own qu f args =>
  simp only [lY] at he ⊢
  split at he
  ·split at he
   ·rename_i hc
    simp only [if_pos hc]
    exact gZ (g := fun n => (evn G n).f _ _ _) (kk := fun _ q => vH s _ q) he mf (fun _ _ _ _ _ q => q) (fun _ q => call_some.1 q) (fun _ q => ⟨0, q⟩)
   ·rename_i hc
    simp only [if_neg hc]
    exact gZ (g := fun n => (evn G n).f _ _ s) (kk := fun _ q => quiet qu s _ q) he mf (fun _ _ _ _ _ q => q) (fun _ q => call_some.1 q) (fun _ q => ⟨0, q⟩)
  ·cases he
 | sc t and a rows b =>
  simp only [lY] at he ⊢
  split at he
  ·split at he
   ·rename_i hc
    simp only [if_pos hc]
    exact gZ (g := fun n => (evn G n).r rows _ s) (kk := fun _ q => some (b.ev q.1, q.2)) he mr (fun _ _ _ _ _ q => q) (fun _ q => evR_some.1 q) (fun _ q => ⟨0, q⟩)
   ·rename_i hc
    simp only [if_neg hc]; exact ⟨0, he⟩
  ·cases he
 | _ => exact ⟨0, he⟩
theorem AD {G : Gp} {rows : List Qx} {env : Env} {s : St} {r : Env × St} (he : iA (evL G) rows env s = some r) : ∃ n, iA (evn G n) rows env s = some r := by
 cases rows with
 | nil => exact ⟨0, he⟩
 | cons row rs =>
  exact gZ (g := fun n => lY (evn G n) row.op env s) (kk := fun n q => (evn G n).r rs (put (kill env (aF row.op)) row.dst q.1) q.2) he
   (fun _ _ _ h q => wQ (hH G h) q) (fun _ _ _ _ h q => (hH G h).r q) (fun _ q => Gc q) (fun _ q => evR_some.1 q)
theorem Gb {G : Gp} {f : FuncId} {args : List V} {s : St} {r : V × St} (he : oC G (evL G) f args s = some r) : ∃ n, oC G (evn G n) f args s = some r := by
 simp only [oC] at he ⊢
 split at he
 ·exact ⟨0, he⟩
 ·split at he
  ·cases he
  ·exact gZ (g := fun n => (evn G n).c _ _ s) (kk := fun _ r => match r.1 with | .exit _ => none | _ => fE r.2.2 r.2.1 _ >>= fun vs => some (fin _ s r.2.2 (gB vs))) he
    (fun _ _ _ h q => (hH G h).c q) (fun _ _ _ _ _ q => q) (fun _ q => evC_some.1 q) (fun _ q => ⟨0, q⟩)
theorem Aq {α : Type} {x y : Option α} (h : ∀ r, x = some r ↔ y = some r) : x = y := by
 cases x with
 | none => cases y with
  | none => rfl
  | some b => exact ((h b).2 rfl)
 | some a => exact ((h a).1 rfl).symm
theorem nJ (G : Gp) (c : Qq) (env : Env) (s : St) : evC G c env s = gK (evL G) c env s := by
 refine Aq fun r => ⟨fun h => ?_, fun h => ?_⟩
 ·obtain ⟨n, hn⟩ := evC_some.1 h
  cases n with
  | zero => cases hn
  | succ n => exact wO (CI G n) hn
 ·obtain ⟨n, hn⟩ := Ga h
  exact evC_some.2 ⟨n + 1, hn⟩
theorem GT (G : Gp) (rows : List Qx) (env : Env) (s : St) : evR G rows env s = iA (evL G) rows env s := by
 refine Aq fun r => ⟨fun h => ?_, fun h => ?_⟩
 ·obtain ⟨n, hn⟩ := evR_some.1 h
  cases n with
  | zero => cases hn
  | succ n => exact qH (CI G n) hn
 ·obtain ⟨n, hn⟩ := AD h
  exact evR_some.2 ⟨n + 1, hn⟩
theorem tV (G : Gp) (f : FuncId) (args : List V) (s : St) : call G f args s = oC G (evL G) f args s := by
 refine Aq fun r => ⟨fun h => ?_, fun h => ?_⟩
 ·obtain ⟨n, hn⟩ := call_some.1 h
  cases n with
  | zero => cases hn
  | succ n => exact wP (CI G n) hn
 ·obtain ⟨n, hn⟩ := Gb h
  exact call_some.2 ⟨n + 1, hn⟩
theorem jE (G : Gp) (f : FuncId) (args : List V) (s : St) (p : List V → St → Option (V × St)) (h : G.prim f = some p) : call G f args s = p args s := by
 rw [tV]; simp only [oC, h]
theorem CM {s : St} {args : List V} {r q : V × St} (h : vH s args r = some q) : FrOk (eD args) s args r ∧ q = (r.1, ⟨r.2.obs ++ s.obs.drop (eD args), s.bufs⟩) := by
 unfold vH at h
 split at h
 ·rename_i hc
  exact ⟨hc, (Option.some.inj h).symm⟩
 ·cases h
theorem Dg {qu : Bool} {s : St} {args : List V} {r q : V × St} (h : quiet qu s args r = some q) : q = r ∧ (qu = true → r.2 = s ∧ bY s.obs.length s.bufs.length args = true) := by
 unfold quiet at h
 by_cases hc : qu = true → r.2 = s ∧ bY s.obs.length s.bufs.length args = true
 ·rw [if_pos hc] at h
  exact ⟨(Option.some.inj h).symm, hc⟩
 ·rw [if_neg hc] at h
  cases h
