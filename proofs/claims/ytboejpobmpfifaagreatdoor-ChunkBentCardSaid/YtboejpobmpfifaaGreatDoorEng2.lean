/-
  From the program's code to the evaluator's: types resolved. No condition.
-/
import Derived.Test.YtboejpobmpfifaaGreatDoorEng1
namespace Go.Proofs.YtboejpobmpfifaaGreatDoor.Eng
open Go

/-- A constant, as an abstract value. -/
def ofVal : Nat → Value → Option V
  | 0, _ => none
  | d + 1, v =>
    match v with
    | .bool b => some (.bool b)
    | .int k n => some (.int k n)
    | .string s => some (.str s.data.toList)
    | .pointer none => some .pnil
    | .slice none 0 0 => some (.sl .nil [])
    | .map none => some .mnil
    | .nilFunc => some .nilF
    | .nilIface => some .nilI
    | .agg cs => (cs.toList.mapM (ofVal d)).map .agg
    | .tuple cs => (cs.toList.mapM (ofVal d)).map .tup
    | _ => none

def cX : Operand → Option X
  | .tmp t => some (.tmp t)
  | .const v => (ofVal 4 v).map .c
  | .func f => some (.c (.fn (.func f) [] []))
  | .global _ => none

def cXo : Option Operand → Option (Option X)
  | none => some none
  | some x => (cX x).map some

/-- What may be chosen. -/
structure Hint where
  /-- slots whose nil slice gets a buffer at once -/
  eager : List Nat := []
  /-- slots of calls whose arguments keep their rights -/
  own : List Nat := []
  /-- slots of quiet calls -/
  quiet : List Nat := []
  /-- slots of appends to slices that may be written -/
  grow : List Nat := []
  /-- slots of appends of what is told later, and of the places where it is told -/
  lazy : List Nat := []
  /-- behind the drawn region that fills this slot: that slot's object has, so far on, a slice that is told as a list -/
  frz : List (Nat × Nat × Nat) := []

def szOf (P : Program) (t : TypeId) : Option Nat := (P.info? t).map (·.size)

/-- How a value of a type is loaded: as one cell, or as so many. -/
def aggN (P : Program) (t : TypeId) : Option (Option Nat) :=
  match P.underlying t with
  | some (.struct _) | some (.array _ _) => (szOf P t).map some
  | some _ => some none
  | none => none

/-- A slice type's elements: type, cells, bytes. -/
def elemOf (P : Program) (t : TypeId) : Option (TypeId × Nat × Nat) :=
  match P.underlying t with
  | some (.slice e) => (P.info? e).map fun i => (e, i.size, i.bytes)
  | _ => none

def zeroV (P : Program) (t : TypeId) : Option V := ((P.info? t).bind (·.zero)).bind (ofVal 4)

def fieldsOf (P : Program) (t : TypeId) : Option (Array Field) :=
  match P.underlying t with
  | some (.struct fs) => some fs
  | _ => none

/-- Field f of a struct type: its place in cells, and how it is loaded. -/
def fieldAt (P : Program) (t : TypeId) (f : Nat) : Option (Nat × Option Nat) := do
  let fs ← fieldsOf P t
  let fd ← fs[f]?
  let n ← aggN P fd.type
  pure (fd.offset, n)

/-- Field f's place and size, for a struct literal. -/
def fieldSz (P : Program) (t : TypeId) (f : Nat) : Option (Nat × Nat) := do
  let fs ← fieldsOf P t
  let fd ← fs[f]?
  let n ← szOf P fd.type
  pure (fd.offset, n)

/-- How many cells a type's zero value has. -/
def zeroSz (P : Program) (t : TypeId) : Option Nat := ((P.info? t).bind (·.zero)).map (·.cells.size)

/-- What may be appended to elements of so many cells: a slice, or a string. -/
def appTy (P : Program) (sz : Nat) (u : TypeId) : Option Bool :=
  match P.underlying u with
  | some (.slice _) => some false
  | some .string => if sz = 1 then some true else none
  | _ => none

/-- A struct's fields: place and size. -/
def placesOf (P : Program) (t : TypeId) : Option (List (Nat × Nat)) := do
  let fs ← fieldsOf P t
  fs.toList.mapM fun fd => (szOf P fd.type).map fun n => (fd.offset, n)

def cPart (pl : List (Nat × Nat)) (p : Nat × Operand) : Option (Nat × Nat × X) := do
  let q ← pl[p.1]?
  let x ← cX p.2
  pure (q.1, q.2, x)

def cPartS (p : Nat × Operand) : Option (Nat × X) := (cX p.2).map fun x => (p.1, x)

def mapOf (P : Program) (t : TypeId) : Option (TypeId × TypeId) :=
  match P.underlying t with
  | some (.map k e) => some (k, e)
  | _ => none

/-- Keys of these kinds are compared by value. -/
def keyKind (P : Program) (t : TypeId) : Option Nat :=
  match P.underlying t with
  | some .string => some 0
  | some (.int _) => some 1
  | some .bool => some 2
  | _ => none

def isNilSl : Operand → Bool
  | .const (.slice none 0 0) => true
  | _ => false

def isNilC : V → Option Bool
  | .nilI => some false
  | .sl .nil [] => some true
  | _ => none

/-- A struct's fields, if each is of one cell: numbers (0), bools (1), texts (2). -/
def kindsOf (P : Program) : Nat → List Field → Option (List Nat)
  | _, [] => some []
  | i, f :: fs =>
    if f.name ≠ "_" ∧ f.offset = i then
      match P.underlying f.type with
      | some (.int _) => (kindsOf P (i + 1) fs).map (0 :: ·)
      | some .bool => (kindsOf P (i + 1) fs).map (1 :: ·)
      | some .string => (kindsOf P (i + 1) fs).map (2 :: ·)
      | _ => none
    else none

def cBin (P : Program) (op : BinOp) (t : TypeId) (x y : X) : Option AOp :=
  match P.underlying t with
  | some (.int _) | some .string => some (.bin op x y)
  | some .bool => match op with
    | .eql => some (.eqb false x y)
    | .neq => some (.eqb true x y)
    | _ => none
  | some (.pointer e) =>
    if (szOf P e).any (· ≠ 0) then
      match op with
      | .eql => some (.eqp false x y)
      | .neq => some (.eqp true x y)
      | _ => none
    else none
  | some (.struct fs) =>
    match kindsOf P 0 fs.toList, op with
    | some ks, .eql => if P.stoodInHeld t = false ∧ P.eqGuardType P.depth t = false then some (.eqs false ks x y) else none
    | some ks, .neq => if P.stoodInHeld t = false ∧ P.eqGuardType P.depth t = false then some (.eqs true ks x y) else none
    | _, _ => none
  | some (.interface _) =>
    match y, op with
    | .c .nilI, .eql => some (.eqn false false x)
    | .c .nilI, .neq => some (.eqn false true x)
    | _, _ => none
  | some (.slice _) =>
    match y, op with
    | .c (.sl .nil []), .eql => some (.eqn true false x)
    | .c (.sl .nil []), .neq => some (.eqn true true x)
    | _, _ => none
  | _ => none

/-- One variable of a type lies at the head of a block of its type. -/
def liesOk (P : Program) (u : TypeId) : Bool := liesAt P P.depth u 1 0 u 1 && decide (0 < P.cellsOf u) && (P.info? u).isSome

def cOp (P : Program) (h : Hint) (o : Oper) : Option AOp :=
  match o.op with
  | .move x => (cX x).map .mov
  | .assign x =>
    if isNilSl x && (o.dst.any fun d => h.eager.contains d) then
      (elemOf P o.type).map fun e => .nilb (e.2.2, e.1)
    else (cX x).map .mov
  | .pick c a b => do pure (.pick (← cX c) (← cX a) (← cX b))
  | .alloc e => (zeroV P e).map fun z => .new e z.cells
  | .box t x => (cX x).map (.box t)
  | .build t parts => do
    let pl ← placesOf P t
    let z ← zeroV P t
    let ps ← parts.toList.mapM (cPart pl)
    pure (.build z.cells ps)
  | .buildSlice t len parts => do
    let e ← elemOf P t
    let z ← zeroV P e.1
    let ps ← parts.toList.mapM cPartS
    if 0 < e.2.1 ∧ len * e.2.1 ≤ 2 ^ 24 ∧ len * e.2.2 ≤ 2 ^ 40 ∧ z.cells.length = e.2.1 ∧ z.cells.all V.one = true then pure (.bsl e.2.1 z len ps) else none
  | .load t a => do pure (.load (← aggN P t) (← cX a))
  | .store t a x => do
    let n ← szOf P t
    let p ← cX a
    let v ← cX x
    if (match p with | .tmp q => h.lazy.contains q | _ => false) = true then pure (.stz n p v) else pure (.store n p v)
  | .nilCheck x => (cX x).map .nilchk
  | .binOp op t x y _ => do cBin P op t (← cX x) (← cX y)
  | .unOp op _ x => (cX x).map (.un op)
  | .convert src dst x => do
    let x ← cX x
    match P.underlying src, P.underlying dst with
    | some (.int _), some (.int k) => pure (.cvI k x)
    | some .string, some .string => pure (.cvS x)
    | some (.slice e), some .string =>
      match P.underlying e with
      | some (.int .u8) => pure (.b2s x)
      | _ => none
    | some (.int _), some .string => pure (.i2s x)
    | some (.pointer t), some .unsafePointer => if (szOf P t).any (· ≠ 0) then pure (.pu x) else none
    | some .unsafePointer, some (.pointer u) => if liesOk P u then pure (.up u (P.cellsOf u) x) else none
    | _, _ => none
  | .makeFunc (.func f) first cap => do pure (.mkfn (.func f) (← first.toList.mapM cX) (← cap.toList.mapM cX))
  | .makeMap t none => do
    let _ ← mapOf P t
    pure .mkmap
  | .slice t x (some lo) (some hi) (some mx) => do
    match P.underlying t with
    | some (.slice e) => pure (.slc3 (← szOf P e) (← cX x) (← cX lo) (← cX hi) (← cX mx))
    | _ => none
  | .makeSlice t len cap => do
    let e ← elemOf P t
    let z ← zeroV P e.1
    if 0 < e.2.1 ∧ 0 < e.2.2 ∧ z.cells.length = e.2.1 ∧ z.cells.all V.one = true then pure (.mks e.2.1 (e.2.2, e.1) z (← cX len) (← cX cap)) else none
  | .slice t x lo hi none => do
    let lo ← cXo lo
    let hi ← cXo hi
    match P.underlying t with
    | some .string => pure (.slcS (← cX x) lo hi)
    | some (.slice e) => pure (.slc (← szOf P e) (← cX x) lo hi)
    | _ => none
  | .fieldAddr t x f => do
    let fs ← fieldSz P t f
    if fs.2 = 0 then none else pure (.fadr fs.1 (← cX x))
  | .field t x f => do
    let fs ← fieldAt P t f
    pure (.fld fs.1 fs.2 (← cX x))
  | .indexAddr t x i => do
    let e ← elemOf P t
    pure (.iadr e.2.1 (← cX x) (← cX i))
  | .index t x i =>
    match P.underlying t with
    | some .string => do pure (.idx (← cX x) (← cX i))
    | _ => none
  | .extract x i => (cX x).map fun x => .ext x i
  | .lookup t m k ok => do
    let kt ← mapOf P t
    let kk ← keyKind P kt.1
    let z ← zeroV P kt.2
    let m ← cX m
    let k ← cX k
    pure (.look kk z ok m k)
  | .mapUpdate t m k v | .insert t m k v => do
    let kt ← mapOf P t
    let kk ← keyKind P kt.1
    let m ← cX m
    let k ← cX k
    let v ← cX v
    pure (.mupd kk m k v)
  | .mapEntry t m k => do
    let kt ← mapOf P t
    let kk ← keyKind P kt.1
    let z ← zeroV P kt.2
    let m ← cX m
    let k ← cX k
    pure (.ment kk z m k)
  | .entryStore _ m b v => do pure (.est (← cX m) (← cX b) (← cX v))
  | .range t x =>
    match P.underlying t with
    | some .string => (cX x).map .rng
    | _ => none
  | .next x true => (cX x).map .nxt
  | .call { callee := .builtin .len, args, argTypes } =>
    match args.toList, argTypes.toList with
    | [x], [t] =>
      match P.underlying t with
      | some .string => (cX x).map (.len 0)
      | some (.slice _) => (cX x).map (.len 1)
      | some (.map _ _) => (cX x).map (.len 2)
      | _ => none
    | _, _ => none
  | .call { callee := .builtin .clear, args, argTypes } =>
    match args.toList, argTypes.toList with
    | [x], [t] => do
      let e ← elemOf P t
      let z ← zeroV P e.1
      if 0 < e.2.1 ∧ z.cells.length = e.2.1 ∧ z.cells.all V.one = true then pure (.clr e.2.1 z (← cX x)) else none
    | _, _ => none
  | .call { callee := .builtin .max, args, argTypes } =>
    match args.toList, argTypes.toList with
    | [x, y], [t, _] =>
      match P.underlying t with
      | some (.int _) => do pure (.mxn true (← cX x) (← cX y))
      | _ => none
    | _, _ => none
  | .call { callee := .builtin .min, args, argTypes } =>
    match args.toList, argTypes.toList with
    | [x, y], [t, _] =>
      match P.underlying t with
      | some (.int _) => do pure (.mxn false (← cX x) (← cX y))
      | _ => none
    | _, _ => none
  | .call { callee := .builtin .append, args, argTypes } =>
    match args.toList, argTypes.toList with
    | [x, y], [t, u] => do
      let e ← elemOf P t
      let _ ← zeroV P e.1
      let x ← cX x
      let y ← cX y
      let str ← appTy P e.2.1 u
      if e.2.2 ≤ 2 ^ 20 ∧ 0 < e.2.2 ∧ 0 < e.2.1 ∧ zeroSz P e.1 = some e.2.1 then
        if (o.dst.any fun d => h.lazy.contains d) then (if str = false then pure (.appz e.2.1 (e.2.2, e.1) x y) else none)
        else if (o.dst.any fun d => h.grow.contains d) then (if str = false then pure (.appm e.2.1 (e.2.2, e.1) x y) else none)
        else pure (.app str e.2.1 (e.2.2, e.1) x y)
      else none
    | _, _ => none
  | .call { callee := .builtin .unsafeSliceData, args, .. } =>
    match args.toList with
    | [x] => (cX x).map .sdata
    | _ => none
  | .call { callee := .builtin .unsafeString, args, argTypes } =>
    match args.toList, argTypes.toList with
    | [x, n], [pt, _] =>
      match P.underlying pt with
      | some (.pointer e) => if P.cellsOf e = 1 then do pure (.ustr e (← cX x) (← cX n)) else none
      | _ => none
    | _, _ => none
  | .call { callee := .value f, args, .. } => do pure (.call (o.dst.any fun d => h.own.contains d) (o.dst.any fun d => h.quiet.contains d) (← cX f) (← args.toList.mapM cX))
  | _ => none

/-- A row of a region as it stands: guarded by a slot. -/
structure FRow where
  dst : Option Nat
  guard : Option (Nat × Bool)
  op : AOp

def cRow (P : Program) (h : Hint) (ops : Array Oper) (n : Nat) (o : Oper) : Option FRow := do
  let g ← (match o.guard with
    | none => some none
    | some (j, want) => ((ops[j]?).bind (·.dst)).map fun t => some (t, want))
  let a ← cOp P h o
  match a with
  | .stz k (.tmp t) x => if o.dst.isNone && o.guard.isNone && decide (t < n) then pure ⟨some t, none, .stz k (.tmp t) x⟩ else none
  | .stz _ _ _ => none
  | a => if o.dst.all (· < n) && g.all (fun t => decide (t.1 < n)) then pure ⟨o.dst, g, a⟩ else none

mutual
/-- The guarded rows that a row stands for. -/
def flatR (g : Option (Nat × Bool)) : ARow → List FRow
  | .mk d (.sc t and a rows b) =>
    ⟨some t, g, .mov a⟩ :: (flatL (some (t, and)) rows ++
      [⟨d, g, if and then .pick (.tmp t) b (.c (.bool false)) else .pick (.tmp t) (.c (.bool true)) b⟩])
  | .mk d op => [⟨d, g, op⟩]
def flatL (g : Option (Nat × Bool)) : List ARow → List FRow
  | [] => []
  | r :: rs => flatR g r ++ flatL g rs
end

inductive FCode where
  | skip
  | halt
  | reg (rows : List FRow)
  | regD (aps : List (Nat × Nat)) (rows : List FRow)
  | seq (a b : FCode)
  | cond (x : X) (a b : FCode)
  | blk (id : Nat) (c : FCode)
  | loop (c : FCode)
  | scope (c : FCode)
  | exit (id : Nat)
  | ret

def flatC : ACode → FCode
  | .skip => .skip
  | .halt => .halt
  | .reg rows => .reg (flatL none rows)
  | .regD aps rows => .regD aps (flatL none rows)
  | .seq a b => .seq (flatC a) (flatC b)
  | .cond x a b => .cond x (flatC a) (flatC b)
  | .blk i c => .blk i (flatC c)
  | .loop _ c => .loop (flatC c)
  | .scope c => .scope (flatC c)
  | .exit i => .exit i
  | .ret => .ret

/-- What an operation reads of the store: nothing, something, or it may turn it. -/
inductive Cls where
  | pure | reads | turns

def cls : AOp → Cls
  | .mov _ | .pick _ _ _ | .build _ _ | .bsl _ _ _ _ | .nilchk _ | .bin _ _ _ | .eqb _ _ _ | .eqp _ _ _ | .eqs _ _ _ _ | .eqn _ _ _ | .un _ _ | .cvI _ _ | .cvS _ | .mkfn _ _ _
  | .slcS _ _ _ | .mxn _ _ _ | .fadr _ _ | .fld _ _ _ | .iadr _ _ _ | .idx _ _ | .ext _ _ | .ifc _ _ | .b2s _ | .i2s _ => .pure
  | .load _ _ | .slc _ _ _ _ | .slc3 _ _ _ _ _ | .look _ _ _ _ _ | .sdata _ | .ustr _ _ _ | .pu _ | .up _ _ _ => .reads
  | .len k _ => if k ≤ 1 then .pure else .reads
  | .call own qu _ _ => if (!own && qu) = true then .reads else .turns
  | _ => .turns

def usesX : X → List Nat
  | .tmp t => [t]
  | .c _ => []
def usesXs (l : List X) : List Nat := l.flatMap usesX
def usesXo : Option X → List Nat
  | some x => usesX x
  | none => []

/-- The slots that an operation looks at. -/
def usesO : AOp → List Nat
  | .mov x | .eqn _ _ x | .box _ x | .b2s x | .i2s x | .sdata x | .pu x | .up _ _ x | .load _ x | .nilchk x | .un _ x | .cvI _ x | .cvS x | .fadr _ x | .fld _ _ x | .ext x _ | .len _ x | .rng x | .nxt x | .ifc _ x => usesX x
  | .nilb _ | .new _ _ | .mkmap => []
  | .pick a b c | .mupd _ a b c | .est a b c => usesX a ++ usesX b ++ usesX c
  | .build _ ps => ps.flatMap fun p => usesX p.2.2
  | .bsl _ _ _ ps => ps.flatMap fun p => usesX p.2
  | .store _ a b | .bin _ a b | .eqb _ a b | .eqp _ a b | .eqs _ _ a b | .iadr _ a b | .idx a b | .app _ _ _ a b | .appm _ _ a b | .appz _ _ a b | .stz _ a b | .mxn _ a b | .look _ _ _ a b | .ment _ _ a b | .ustr _ a b => usesX a ++ usesX b
  | .mkfn _ a b => usesXs a ++ usesXs b
  | .slcS x a b | .slc _ x a b => usesX x ++ usesXo a ++ usesXo b
  | .slc3 _ x a b c => usesX x ++ usesX a ++ usesX b ++ usesX c
  | .clr _ _ x => usesX x
  | .mks _ _ _ x y => usesX x ++ usesX y
  | .call _ _ f as => usesX f ++ usesXs as
  | .sc _ _ _ _ _ => []

def usesG : Option (Nat × Bool) → List Nat
  | none => []
  | some (t, _) => [t]

def FRow.uses (f : FRow) : List Nat := usesG f.guard ++ usesO f.op

/-- The operations that stand directly ahead of one, in every order. -/
def ahead (ops : Array Oper) (i : Nat) : List Nat :=
  match ops[i]? with
  | some o => (o.after.toList.filter (Region.binds .any)).map (·.on)
  | none => []

/-- Those ahead of one, through others too. -/
def ahead2 (ops : Array Oper) : Nat → Nat → List Nat
  | 0, _ => []
  | k + 1, i => (ahead ops i).flatMap fun j => j :: ahead2 ops k j

def isPure (f : FRow) : Bool := match cls f.op with | .pure => true | _ => false
def isLoud (f : FRow) : Bool := match cls f.op with | .turns => true | _ => false

def isMem : AOp → Bool
  | .load _ _ | .store _ _ _ => true
  | _ => false
def isStz : AOp → Bool
  | .stz _ _ _ => true
  | _ => false
def isApp : AOp → Bool
  | .app _ _ _ _ _ => true
  | .appz _ _ _ _ => true
  | .stz _ _ _ => true
  | _ => false
def isNew : AOp → Bool
  | .new _ _ => true
  | _ => false
def isCall : AOp → Bool
  | .call _ _ _ _ => true
  | _ => false
def addrS : AOp → Option Nat
  | .load _ (.tmp x) => some x
  | .store _ (.tmp x) _ => some x
  | _ => none

/-- Nothing from row i on writes the slot. -/
def stable (fs : List FRow) (i x : Nat) : Bool := fs.zipIdx.all fun (g, w) => decide (w < i) || g.dst != some x

/-- What a framed call is given. -/
def frArgs : AOp → Option (List X)
  | .call true true (.c (.fn (.func _) [] [])) as => some as
  | _ => none

def plainC : V → Bool
  | .int _ _ | .bool _ | .str _ => true
  | _ => false

/-- Does a framed call (row wc) stand apart from what slot y (read by row wm) points to? -/
def frPair (fs : List FRow) (aps : List (Nat × Nat)) (as : List X) (wc y wm : Nat) : Bool :=
  stable fs wm y && as.all fun
    | .tmp t => (aps.contains (y, 1000000 + t) && decide (t < 1000000)) && stable fs wc t
    | .c v => plainC v

def frMem (fs : List FRow) (aps : List (Nat × Nat)) (c : AOp) (wc : Nat) (m : AOp) (wm : Nat) : Bool :=
  match frArgs c, addrS m with
  | some as, some y => isMem m && frPair fs aps as wc y wm
  | _, _ => false

/-- May a row g (the j-th) and a later one f (the i-th) change places? -/
def pairOk (fs : List FRow) (aps : List (Nat × Nat)) (calm : Bool) (g : FRow) (j : Nat) (f : FRow) (i : Nat) : Bool :=
  isPure g || isPure f || (!isLoud g && !isLoud f) ||
  (isMem g.op && isMem f.op && match addrS g.op, addrS f.op with
    | some x, some y => decide (y < 1000000) && aps.contains (x, y) && stable fs j x && stable fs i y
    | _, _ => false) ||
  (isMem g.op && isApp f.op) || (isApp g.op && isMem f.op) || (isNew g.op && isApp f.op) || (isApp g.op && isNew f.op) || (isMem g.op && isNew f.op) ||
  (!isLoud g && !isCall g.op && isNew f.op) || (calm && !isLoud g && isNew f.op) ||
  frMem fs aps g.op j f.op i || frMem fs aps f.op i g.op j || ((frArgs g.op).isSome && isApp f.op) || (isApp g.op && (frArgs f.op).isSome) || ((frArgs g.op).isSome && isNew f.op)

/-- A new object that no edge binds to another new one. -/
def inM (ops : Array Oper) (fs : List FRow) (i : Nat) : Bool :=
  match fs[i]? with
  | some f => isNew f.op && fs.zipIdx.any fun (g, j) => isNew g.op && (j != i) && !(ahead2 ops i i).contains j && !(ahead2 ops j j).contains i
  | none => false

/-- Such objects are there, all of them, ahead of each row that is bound to one of them; each has a slot of its own. -/
def groupOk (ops : Array Oper) (fs : List FRow) : Bool :=
  let M := (List.range fs.length).filter (inM ops fs)
  (M.isEmpty || fs.zipIdx.all fun (f, k) => (!inM ops fs k || (f.guard.isNone && f.dst.isSome && fs.zipIdx.all fun (g, j) => j == k || g.dst != f.dst)) &&
    (!(M.any fun m => (ahead2 ops k k).contains m) || M.all fun m => (ahead2 ops k k).contains m))

/-- What turns the store ahead of row i is bound to it (or is a new object, as it is). -/
def calmOf (ops : Array Oper) (fs : List FRow) (i : Nat) : Bool := fs.zipIdx.all fun (g, j) => decide (i ≤ j) || !isLoud g || (ahead2 ops i i).contains j || (inM ops fs i && inM ops fs j)

def frAps (c m : AOp) : List (Nat × Nat) :=
  match frArgs c, addrS m with
  | some as, some y => as.filterMap fun
    | .tmp t => some (y, 1000000 + t)
    | .c _ => none
  | _, _ => []

/-- Where what was told later is told behind the region: at places, in slots. -/
def tellOf (fs : List FRow) : List (Nat × Nat) :=
  fs.flatMap fun f => match f.op, f.dst with
    | .appz _ _ _ _, some t => fs.flatMap fun g => match g.op, g.dst with
      | .iadr _ (.tmp t') _, some q => if t' == t && fs.any (fun z => match z.op with | .stz _ (.tmp q') _ => q' == q | _ => false) then
          fs.filterMap fun m => match m.op, m.dst with
            | .store _ (.tmp p) (.tmp t'), _ => if t' == t then some (p, 2000000 + q) else none
            | .mov (.tmp t'), some d => if t' == t then some (d, 3000000 + q) else none
            | _, _ => none
        else []
      | _, _ => []
    | _, _ => []

/-- The pairs of slots whose pointers must be of two objects. -/
def apsOf (ops : Array Oper) (fs : List FRow) : List (Nat × Nat) :=
  tellOf fs ++
  fs.zipIdx.flatMap fun (f, i) => fs.zipIdx.flatMap fun (g, j) =>
    if decide (j < i) && !(ahead2 ops i i).contains j then
      (if isMem g.op && isMem f.op && (isLoud g || isLoud f) then
        match addrS g.op, addrS f.op with
        | some x, some y => [(x, y)]
        | _, _ => []
      else []) ++ frAps g.op f.op ++ frAps f.op g.op
    else []

def apsH (h : Hint) (ops : Array Oper) (fs : List FRow) : List (Nat × Nat) :=
  apsOf ops fs ++ h.frz.filterMap fun f => if fs.any fun r => r.dst == some f.1 then some (f.2.1, 4000000 + f.2.2) else none

/-- May the rows be run in every order that their edges allow? -/
def drawOk (ops : Array Oper) (fs : List FRow) (aps : List (Nat × Nat)) : Bool :=
  groupOk ops fs && (fs.zipIdx.all fun (f, i) =>
    (ahead ops i).all (· < i) &&
    fs.zipIdx.all fun (g, j) =>
      (match g.dst with
        | none => true
        | some t => (i == j || f.dst != some t || (decide (j < i) && (ahead2 ops i i).contains j) || (decide (i < j) && (ahead2 ops j j).contains i)) && (!f.uses.contains t || (decide (j < i) && (ahead ops i).contains j) || (decide (i ≤ j) && (i == j || (ahead ops j).contains i)))) &&
      (!decide (j < i) || pairOk fs aps (isNew f.op && calmOf ops fs i) g j f i || (ahead2 ops i i).contains j || (inM ops fs i && inM ops fs j)))

def cBody (P : Program) (h : Hint) (n : Nat) : Code → FCode
  | .skip => .skip
  | .label _ => .skip
  | .region _ ops false => match ops.toList.mapM (cRow P h ops n) with
    | some fs => .reg fs
    | none => .halt
  | .region _ ops true => match ops.toList.mapM (cRow P h ops n) with
    | some fs => if P.follows .mixedOrders && drawOk ops fs (apsH h ops fs) then .regD (apsH h ops fs) fs else .halt
    | none => .halt
  | .seq a b => .seq (cBody P h n a) (cBody P h n b)
  | .cond c a b => match cX c with
    | some c => .cond c (cBody P h n a) (cBody P h n b)
    | none => .halt
  | .block id c => .blk id (cBody P h n c)
  | .loop c => .loop (cBody P h n c)
  | .scope c => .scope (cBody P h n c)
  | .exit id => .exit id
  | .ret => .ret
  | _ => .halt

def cRes (P : Program) : ResultVar → Option ARes
  | .tmp t => some (.tmp t)
  | .cell t ty => (aggN P ty).map (.cell t)

/-- A function, its code flat. -/
def compile (P : Program) (h : Hint) (f : FuncId) : Option (Nat × List ARes × FCode) := do
  let fn ← P.funcs[f]?
  if fn.name = "runtime.NumGoroutine" then none else
  let c ← fn.body
  let b := cBody P h fn.ntmps c
  let r ← fn.results.toList.mapM (cRes P)
  if fn.params.size + fn.nfree ≤ fn.ntmps then pure (fn.ntmps, r, b) else none

/-- The evaluator's code F is function f's. -/
def Of (P : Program) (f : FuncId) (F : AFunc) : Prop := ∃ h, compile P h f = some (F.ntmps, F.res, flatC F.body)

end Go.Proofs.YtboejpobmpfifaaGreatDoor.Eng
