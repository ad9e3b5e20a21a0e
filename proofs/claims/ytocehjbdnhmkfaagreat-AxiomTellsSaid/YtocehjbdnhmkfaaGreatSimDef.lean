/- A part of the proof of a law of module cupola: SimDef. It has no conditions of its own. -/
import Derived.Orders
set_option linter.all false
/-!
A second, deterministic meaning of the model's code, over values that are trees: what is read is a tree, what a function has made itself lies in a heap of its own.
-/
namespace Go.Sim

/-! ### Values -/

/-- Data that is never written any more. -/
inductive T where
  | int (k : IntKind) (n : Int)
  | bool (b : Bool)
  | str (s : ByteArray)
  | sl (xs : List T)
  | agg (cs : List T)
  | tup (vs : List T)
  | fn (f : FuncId)
  | nilp
  | nilf
  | nili
  | iface (t : TypeId) (v : T)

def T.cells : T → List T
  | .agg cs => cs
  | x => [x]

def T.isAgg : T → Bool
  | .agg _ => true
  | _ => false

/-- What stands in a temporary. -/
inductive V where
  | t (x : T)
  | ex (xs : List T)
  | fr (esz : Nat) (st : Bool) (xs : List T)
  | ref (id n : Nat)
  | ptr (id n i off : Nat)
  | tp (xs : List T) (i off : Nat)
  | agg (cs : List V)
  | tup (vs : List V)
  | fn (f : FuncId) (first caps : List V)
  | dead

def V.cells : V → List V
  | .agg cs => cs
  | .t (.agg cs) => cs.map .t
  | x => [x]

def V.isAgg : V → Bool
  | .agg _ => true
  | .t x => x.isAgg
  | _ => false

/-- May it stand in a cell? -/
def V.cell1 : V → Bool
  | .t x => (match x with | .agg _ | .tup _ => false | _ => true)
  | .agg _ | .tup _ | .dead | .fr .. => false
  | _ => true

/-- May it stand in a variable? -/
def V.storable (v : V) : Bool := !v.cells.isEmpty && v.cells.all V.cell1

def allT : List V → Option (List T)
  | [] => some []
  | .t x :: r => (allT r).map (x :: ·)
  | _ => none

def mkAgg (cs : List V) : V :=
  match allT cs with
  | some ts => .t (.agg ts)
  | none => .agg cs

def ofScalar : Value → Option V
  | .bool b => some (.t (.bool b))
  | .int k n => some (.t (.int k n))
  | .string s => some (.t (.str s))
  | .slice none 0 0 => some (.ex [])
  | .pointer none => some (.t .nilp)
  | .nilFunc => some (.t .nilf)
  | .nilIface => some (.t .nili)
  | .func (.func f) first caps => if first = #[] ∧ caps = #[] then some (.t (.fn f)) else none
  | _ => none

def ofVal : Value → Option V
  | .agg cs => (cs.toList.mapM ofScalar).map mkAgg
  | v => ofScalar v

/-! ### The heap -/

structure Obj where
  el : List V
  esz : Nat
  st : Bool

abbrev Heap := List Obj

def cur (H : Heap) (id n : Nat) : Option Obj :=
  match H[id]? with
  | some o => if o.el.length = n then some o else none
  | none => none

/-- A value as data: whatever it leads to, read out. -/
def toT (H : Heap) : Nat → V → Option T
  | _, .t x => some x
  | _, .ex xs => some (.sl xs)
  | d + 1, .ref id n => match cur H id n with
    | some o => (o.el.mapM (toT H d)).map T.sl
    | none => none
  | d + 1, .agg cs => (cs.mapM (toT H d)).map T.agg
  | _, _ => none

def depth : Nat := 4

/-- What it leads to is written no more. -/
def hold : Nat → Heap → V → Heap
  | d + 1, H, .ref id n => match cur H id n with
    | some o => o.el.foldl (hold d) (H.set id { o with st := true })
    | none => H
  | d + 1, H, .agg cs => cs.foldl (hold d) H
  | _, H, _ => H

/-- A part of a value: cells from a place on. -/
def rdV (v : V) (esz off : Nat) (a : Bool) (sz : Nat) : Option V :=
  if a then
    if off = 0 ∧ sz = esz ∧ v.isAgg = true then some v
    else if off + sz ≤ v.cells.length then some (mkAgg ((v.cells.drop off).take sz)) else none
  else v.cells[off]?

def wrV (v : V) (esz off : Nat) (u : V) : Option V :=
  if off = 0 ∧ u.cells.length = esz then some u
  else if off + u.cells.length ≤ v.cells.length then some (mkAgg (v.cells.take off ++ u.cells ++ v.cells.drop (off + u.cells.length))) else none

/-! ### Types -/

/-- Which kind of type. -/
inductive Kd where
  | bool
  | int (k : IntKind)
  | str
  | sl (e : TypeId)
  | arr (n : Nat) (e : TypeId)
  | struct
  | other

def kdOf (P : Program) (t : TypeId) : Kd :=
  match P.underlying t with
  | some .bool => .bool
  | some (.int k) => .int k
  | some .string => .str
  | some (.slice e) => .sl e
  | some (.array n e) => .arr n e
  | some (.struct _) => .struct
  | _ => .other

def isAggT (P : Program) (t : TypeId) : Bool :=
  match P.underlying t with
  | some (.struct _) => true
  | some (.array ..) => true
  | _ => false

/-- Whether of several cells, and of how many. -/
def tyOf (P : Program) (t : TypeId) : Option (Bool × Nat) :=
  match P.underlying t, P.info? t with
  | some _, some i => some (isAggT P t, i.size)
  | _, _ => none

/-- Of how many cells, and bytes. -/
def infoOf (P : Program) (t : TypeId) : Option (Nat × Nat) := (P.info? t).map fun i => (i.size, i.bytes)

/-- Where a field lies, and of how many cells it is. -/
def fldOf (P : Program) (s : TypeId) (f : Nat) : Option (Nat × Nat) :=
  match P.underlying s with
  | some (.struct fs) => (fs[f]?).bind fun fd => (P.info? fd.type).map fun i => (fd.offset, i.size)
  | _ => none

/-- All the fields: where they lie, of how many cells they are. -/
def fldsOf (P : Program) (s : TypeId) : Option (List (Nat × Nat)) :=
  match P.underlying s with
  | some (.struct fs) => fs.toList.mapM fun fd => (P.info? fd.type).map fun i => (fd.offset, i.size)
  | _ => none

def zeroV (P : Program) (t : TypeId) : Option V :=
  match P.info? t with
  | some i => i.zero.bind ofVal
  | none => none

/-! ### Temporaries -/

abbrev Env := Nat → V

def put (e : Env) (t : Nat) (v : V) : Env := fun x => if x = t then v else e x

def putO (e : Env) (t : Option Tmp) (v : V) : Env :=
  match t with
  | some t => put e t v
  | none => e

def ev (e : Env) : Operand → Option V
  | .tmp t => some (e t)
  | .const v => ofVal v
  | .func f => some (.t (.fn f))
  | .global _ => none

/-! ### Operations on numbers and texts -/

def intBin (op : BinOp) (k : IntKind) (a b : Int) : Option T :=
  match op with
  | .add => some (.int k (k.wrap (a + b)))
  | .sub => some (.int k (k.wrap (a - b)))
  | .mul => some (.int k (k.wrap (a * b)))
  | .quo => if b = 0 then none else some (.int k (k.wrap (a.tdiv b)))
  | .rem => if b = 0 then none else some (.int k (a.tmod b))
  | .and => some (.int k (k.wrap (BitVec.ofInt k.bits a &&& BitVec.ofInt k.bits b).toNat))
  | .or => some (.int k (k.wrap (BitVec.ofInt k.bits a ||| BitVec.ofInt k.bits b).toNat))
  | .xor => some (.int k (k.wrap (BitVec.ofInt k.bits a ^^^ BitVec.ofInt k.bits b).toNat))
  | .andNot => some (.int k (k.wrap (BitVec.ofInt k.bits a &&& ~~~ BitVec.ofInt k.bits b).toNat))
  | .eql => some (.bool (a == b))
  | .neq => some (.bool (a != b))
  | .lss => some (.bool (decide (a < b)))
  | .leq => some (.bool (decide (a ≤ b)))
  | .gtr => some (.bool (decide (a > b)))
  | .geq => some (.bool (decide (a ≥ b)))
  | _ => none

def strBin (op : BinOp) (x y : ByteArray) : Option T :=
  match op with
  | .add => if ((x.size + y.size : Nat) : Int) > IntKind.i64.max then none else some (.str (x ++ y))
  | .eql => some (.bool (x.toList == y.toList))
  | .neq => some (.bool (!(x.toList == y.toList)))
  | .lss => some (.bool (Op.bytesLess x.toList y.toList))
  | .leq => some (.bool (Op.bytesLess x.toList y.toList || x.toList == y.toList))
  | .gtr => some (.bool (!(Op.bytesLess x.toList y.toList || x.toList == y.toList)))
  | .geq => some (.bool (!Op.bytesLess x.toList y.toList))
  | _ => none

def binT (op : BinOp) (xIsBool : Bool) (x y : T) : Option T :=
  match x, y with
  | .int k a, .int k' b =>
    match op with
    | .shl => if b < 0 then none else some (.int k (k.wrap (a * 2 ^ min b.toNat k.bits)))
    | .shr => if b < 0 then none else some (.int k (a.fdiv (2 ^ min b.toNat k.bits)))
    | op => if k = k' then intBin op k a b else none
  | .str a, .str b => strBin op a b
  | .bool a, .bool b => if xIsBool then (match op with | .eql => some (.bool (a == b)) | .neq => some (.bool (!(a == b))) | _ => none) else none
  | _, _ => none

def unT (op : UnOp) (x : T) : Option T :=
  match op, x with
  | .neg, .int k n => some (.int k (k.wrap (0 - n)))
  | .not, .bool b => some (.bool (!b))
  | .xor, .int k n => some (.int k (k.wrap (BitVec.ofInt k.bits (if k.signed then -1 else k.max) ^^^ BitVec.ofInt k.bits n).toNat))
  | _, _ => none

/-! ### Operations -/

/-- What an operation did to the heap: nothing; read an object; made one greater; more than that. -/
inductive Eff where
  | none
  | load (id : Nat)
  | grow (id : Nat)
  | wild
  | bad

structure Res where
  v : V
  H : Heap
  eff : Eff

/-- What the making of a place read. -/
def effP : V → Eff
  | .ptr id _ _ _ => .load id
  | _ => .none
/-- What the reading of a length read. -/
def effL : V → Eff
  | .ref id _ => .load id
  | _ => .none
/-- What the holding of a value did. -/
def effS : V → Eff
  | .t _ | .ex _ => .none
  | _ => .bad
def effB : List V → Eff
  | [] => .none
  | .t _ :: r | .ex _ :: r => effB r
  | _ => .bad

def ret (v : V) (H : Heap) : Option Res := some ⟨v, H, .none⟩

def slOf (H : Heap) : V → Option (List V)
  | .t (.sl xs) => some (xs.map .t)
  | .ex xs => some (xs.map .t)
  | .ref id n => (cur H id n).map (·.el)
  | _ => none

def lenOf (H : Heap) : V → Option Nat
  | .t (.str s) => some s.size
  | .t (.sl xs) => some xs.length
  | .ex xs => some xs.length
  | .ref id n => (cur H id n).map (fun _ => n)
  | _ => none

def indexV (H : Heap) (k : Kd) (sz : Nat) (x : V) (i : Int) : Option V :=
  match k, x with
  | .sl _, .t (.sl xs) => (xs[i.toNat]?).bind fun y => if 0 ≤ i ∧ y.cells.length = sz ∧ 0 < sz then some (.tp xs i.toNat 0) else none
  | .sl _, .ex xs => (xs[i.toNat]?).bind fun y => if 0 ≤ i ∧ y.cells.length = sz ∧ 0 < sz then some (.tp xs i.toNat 0) else none
  | .sl _, .ref id n => (cur H id n).bind fun o => if 0 ≤ i ∧ i < n ∧ o.esz = sz ∧ 0 < sz then some (.ptr id n i.toNat 0) else none
  | .arr len _, .ptr id n j off => if 0 ≤ i ∧ i < len ∧ 0 < sz then some (.ptr id n j (off + i.toNat * sz)) else none
  | .arr len _, .tp xs j off => if 0 ≤ i ∧ i < len ∧ 0 < sz then some (.tp xs j (off + i.toNat * sz)) else none
  | _, _ => none

def elemSz (P : Program) : Kd → Nat
  | .sl e => ((infoOf P e).map (·.1)).getD 0
  | .arr _ e => ((infoOf P e).map (·.1)).getD 0
  | _ => 0

def fieldV (p : Option (Nat × Nat)) (x : V) : Option V :=
  match p, x with
  | some (off, sz + 1), .ptr id n i o => some (.ptr id n i (o + off))
  | some (off, sz + 1), .tp xs i o => some (.tp xs i (o + off))
  | _, _ => none

def loadV (H : Heap) (ty : Option (Bool × Nat)) (x : V) : Option Res :=
  match ty, x with
  | some (a, sz), .ptr id n i off => (cur H id n).bind fun o => (o.el[i]?).bind fun v => (rdV v o.esz off a sz).bind fun u => some ⟨u, H, .load id⟩
  | some (a, sz), .tp xs i off => (xs[i]?).bind fun x => (rdV (.t x) x.cells.length off a sz).bind fun u => some ⟨u, H, .none⟩
  | _, _ => none

def storeV (H : Heap) (ty : Option (Bool × Nat)) (x u : V) : Option Res :=
  match ty, x with
  | some (_, sz), .ptr id n i off => (cur H id n).bind fun o => (o.el[i]?).bind fun v =>
      if o.st = false ∧ u.storable = true ∧ u.cells.length = sz then
        (wrV v o.esz off u).bind fun v' => some ⟨.dead, H.set id { o with el := o.el.set i v' }, .wild⟩ else none
  | _, _ => none

def fillV : List V → List (Nat × Nat × V) → Option (List V)
  | cs, [] => some cs
  | cs, (off, sz, v) :: r => if v.cells.length = sz ∧ off + sz ≤ cs.length then fillV (cs.take off ++ v.cells ++ cs.drop (off + sz)) r else none

def placesV (pl : Nat → Option (Nat × Nat)) : List (Nat × V) → Option (List (Nat × Nat × V))
  | [] => some []
  | (i, v) :: r => (pl i).bind fun p => (placesV pl r).bind fun l => some ((p.1, p.2, v) :: l)

/-- Where the parts lie. -/
def plOf (P : Program) (t : TypeId) : Option (Nat → Option (Nat × Nat)) :=
  match kdOf P t with
  | .struct => (fldsOf P t).map fun fl i => fl[i]?
  | .arr _ e => (infoOf P e).map fun p i => some (i * p.1, p.1)
  | _ => none

def buildV (P : Program) (t : TypeId) (parts : List (Nat × V)) : Option V :=
  (zeroV P t).bind fun z => (plOf P t).bind fun pl => (placesV pl parts).bind fun l => (fillV z.cells l).bind fun cs => some (mkAgg cs)

/-- The elements of a literal. -/
def litV (H : Heap) : List T → List (Nat × V) → Option (List T)
  | l, [] => some l
  | l, (i, v) :: r => if i < l.length then (toT H depth v).bind fun x => litV H (l.set i x) r else none

def roomOk (n bytes : Nat) : Bool := decide (n * bytes ≤ 2 ^ 46)

def makeV (P : Program) (H : Heap) (k : Kd) (l c : Int) : Option Res :=
  match k with
  | .sl e => (infoOf P e).bind fun i => (zeroV P e).bind fun z =>
      if 0 ≤ l ∧ l ≤ c ∧ roomOk c.toNat i.2 = true ∧ z.cells.length = i.1 ∧ z.storable = true ∧ 0 < i.1 ∧ 0 < i.2 then
        some ⟨.ref H.length l.toNat, H ++ [⟨List.replicate l.toNat z, i.1, false⟩], .none⟩ else none
  | _ => none

def fits (sz : Nat) (y : V) : Bool := y.storable && y.cells.length == sz

/-- Of how many cells, and bytes, an element is, where both are known. -/
def row1 (i : Nat × Nat) (z : V) : Option (Nat × Nat) := if z.cells.length = i.1 ∧ 0 < i.1 ∧ 0 < i.2 then some i else none
def rowOf (P : Program) (e : TypeId) : Option (Nat × Nat) :=
  match infoOf P e, zeroV P e with
  | some i, some z => row1 i z
  | _, _ => none

def appendV (i : Option (Nat × Nat)) (H : Heap) (s : V) (ys : List V) : Option Res :=
  i.bind fun i =>
    if ys.all (fits i.1) = true then
      match s with
      | .ex xs => if ys.isEmpty = true then ret (.ex xs) H
        else if roomOk (xs.length + ys.length) i.2 = true ∧ (xs.map V.t).all (fits i.1) = true then
          some ⟨.ref H.length (xs.length + ys.length), H ++ [⟨xs.map .t ++ ys, i.1, false⟩], .none⟩ else none
      | .ref id n => (cur H id n).bind fun o => if ys.isEmpty = true then ret (.ref id n) H
          else if roomOk (n + ys.length) i.2 = true ∧ o.esz = i.1 then
            some ⟨.ref id (n + ys.length), H.set id { o with el := o.el ++ ys }, .grow id⟩ else none
      | _ => none
    else none

def bound (x : Option V) (d : Nat) : Option Nat :=
  match x with
  | none => some d
  | some (.t (.int _ n)) => if 0 ≤ n then some n.toNat else none
  | _ => none

/-- A part of a text. -/
def partS (H : Heap) (s : ByteArray) (lo hi mx : Option V) : Option Res :=
  match mx, bound lo 0, bound hi s.size with
  | none, some l, some h => if l ≤ h ∧ h ≤ s.size then ret (.t (.str (s.extract l h))) H else none
  | _, _, _ => none

/-- A part of a slice. -/
def partV (H : Heap) (sz : Nat) (x : V) (lo hi mx : Option V) : Option Res :=
  match slOf H x, toT H depth x with
  | some el, some (.sl xs) => match bound lo 0, bound hi el.length, bound mx el.length with
    | some l, some h, some m => if l ≤ h ∧ h ≤ m ∧ m ≤ el.length ∧ xs.length = el.length ∧ 0 < sz ∧ (mx.isNone || hi.isSome) = true ∧ (l = 0 ∨ ((xs[l]?).all fun y => y.cells.length == sz) = true) then
        some ⟨if mx.isSome = true ∧ m = h then .ex ((xs.take h).drop l) else .t (.sl ((xs.take h).drop l)), hold depth H x, effS x⟩ else none
    | _, _, _ => none
  | _, _ => none

def boolT (P : Program) (t : TypeId) : Bool := match kdOf P t with | .bool => true | _ => false

def asInt : V → Option Int
  | .t (.int _ n) => some n
  | _ => none

def optEv (e : Env) : Option Operand → Option (Option V)
  | none => some none
  | some x => (ev e x).map some

def evs (e : Env) : List Operand → Option (List V)
  | [] => some []
  | x :: r => match ev e x, evs e r with
    | some v, some vs => some (v :: vs)
    | _, _ => none

def evParts (e : Env) : List (Nat × Operand) → Option (List (Nat × V))
  | [] => some []
  | (i, x) :: r => match ev e x, evParts e r with
    | some v, some vs => some ((i, v) :: vs)
    | _, _ => none

def copyV (sz : Nat) (H : Heap) (d s : V) : Option Res :=
  match d, slOf H s with
  | .ref id n, some ys => match cur H id n with
    | some o => if o.st = false ∧ o.esz = sz ∧ (ys.all fun y => y.storable && y.cells.length == o.esz) = true then
        some ⟨.t (.int .i64 (min n ys.length : Nat)), H.set id { o with el := ys.take n ++ o.el.drop ys.length }, .wild⟩ else none
    | none => none
  | _, _ => none

def lenT (H : Heap) (k : Kd) (x : V) : Option Res :=
  match k, x with
  | .str, .t (.str s) => ret (.t (.int .i64 s.size)) H
  | .sl _, .t (.str _) => none
  | .sl _, x => (lenOf H x).bind fun n => some ⟨.t (.int .i64 n), H, effL x⟩
  | _, _ => none

/-- An operation that calls nobody. -/
def opRun (P : Program) (op : Op) (e : Env) (H : Heap) : Option Res :=
  match op with
  | .move x | .assign x => (ev e x).bind (ret · H)
  | .pick c a b => match ev e c with
    | some (.t (.bool true)) => (ev e a).bind (ret · H)
    | some (.t (.bool false)) => (ev e b).bind (ret · H)
    | _ => none
  | .alloc t => match zeroV P t with
    | some z => if z.storable = true then some ⟨.ptr H.length 1 0 0, H ++ [⟨[z], z.cells.length, false⟩], .none⟩ else none
    | none => none
  | .box _ x => match ev e x with
    | some v => if v.storable = true then some ⟨.ptr H.length 1 0 0, H ++ [⟨[v], v.cells.length, false⟩], .none⟩ else none
    | none => none
  | .build t parts => match evParts e parts.toList with
    | some l => (buildV P t l).bind (ret · H)
    | none => none
  | .buildSlice t len parts => match kdOf P t with
    | .sl el => (evParts e parts.toList).bind fun l => (zeroV P el).bind fun z => (infoOf P el).bind fun i => (toT H depth z).bind fun z' =>
        if len * i.1 ≤ 2 ^ 24 ∧ z'.cells.length = i.1 ∧ 0 < i.1 ∧ 0 < i.2 ∧ (l.all fun p => p.2.cells.length == i.1) = true then
          (litV H (List.replicate len z') l).bind fun xs => some ⟨.ex xs, (l.map (·.2)).foldl (hold depth) H, effB (l.map (·.2))⟩ else none
    | _ => none
  | .load t x => (ev e x).bind (loadV H (tyOf P t))
  | .store t x y => match ev e x, ev e y with
    | some a, some u => storeV H (tyOf P t) a u
    | _, _ => none
  | .nilCheck x => match ev e x with
    | some (.ptr id n i off) => ret (.ptr id n i off) H
    | some (.tp xs i off) => ret (.tp xs i off) H
    | some (.t (.fn f)) => ret (.t (.fn f)) H
    | some (.fn f a b) => ret (.fn f a b) H
    | _ => none
  | .binOp op t x y _ => match ev e x, ev e y with
    | some (.t a), some (.t b) => (binT op (boolT P t) a b).bind fun c => ret (.t c) H
    | _, _ => none
  | .unOp op _ x => match ev e x with
    | some (.t a) => (unT op a).bind fun c => ret (.t c) H
    | _ => none
  | .convert s d x => match kdOf P s, kdOf P d, ev e x with
    | .int _, .int k, some (.t (.int _ n)) => ret (.t (.int k (k.wrap n))) H
    | .str, .str, some (.t (.str s)) => ret (.t (.str s)) H
    | _, _, _ => none
  | .makeFunc (.func f) first caps => match evs e first.toList, evs e caps.toList with
    | some [], some [] => ret (.t (.fn f)) H
    | some a, some b => ret (.fn f a b) H
    | _, _ => none
  | .makeSlice t l c => match ev e l, ev e c with
    | some (.t (.int _ l)), some (.t (.int _ c)) => makeV P H (kdOf P t) l c
    | _, _ => none
  | .slice t x lo hi mx => match kdOf P t, ev e x, optEv e lo, optEv e hi, optEv e mx with
    | .str, some (.t (.str s)), some l, some h, some m => partS H s l h m
    | .sl el, some v, some l, some h, some m => partV H (elemSz P (.sl el)) v l h m
    | _, _, _, _, _ => none
  | .fieldAddr s x f => (ev e x).bind fun v => (fieldV (fldOf P s f) v).bind (ret · H)
  | .indexAddr t x i => (ev e x).bind fun v => ((ev e i).bind asInt).bind fun n => (indexV H (kdOf P t) (elemSz P (kdOf P t)) v n).bind fun u => some ⟨u, H, effP u⟩
  | .index t x i => match kdOf P t, ev e x, (ev e i).bind asInt with
    | .str, some (.t (.str s)), some n => if 0 ≤ n ∧ n < s.size then ret (.t (.int .u8 (s.get! n.toNat).toNat)) H else none
    | .arr len el, some (.t (.agg cs)), some n => if 0 ≤ n ∧ n < len ∧ (tyOf P el == some (false, 1)) = true then (cs[n.toNat]?).bind fun x => ret (.t x) H else none
    | _, _, _ => none
  | .extract x i => match ev e x with
    | some (.tup vs) => (vs[i]?).bind (ret · H)
    | some (.t (.tup vs)) => (vs[i]?).bind (fun x => ret (.t x) H)
    | _ => none
  | .call { callee := .builtin b, args, argTypes } => match b, evs e args.toList with
    | .len, some [x] => (argTypes[0]?).bind fun t => lenT H (kdOf P t) x
    | .append, some [s, x] => (argTypes[0]?).bind fun t => (argTypes[1]?).bind fun xt => match kdOf P t, kdOf P xt with
      | .sl e, .sl _ => (slOf H x).bind fun ys => appendV (rowOf P e) H s ys
      | _, _ => none
    | .copy, some [d, s] => (argTypes[0]?).bind fun t => match kdOf P t with
      | .sl e => copyV (elemSz P (.sl e)) H d s
      | _ => none
    | .min, some [.t (.int k a), .t (.int k' b)] => if k = k' then ret (.t (.int k (min a b))) H else none
    | .max, some [.t (.int k a), .t (.int k' b)] => if k = k' then ret (.t (.int k (max a b))) H else none
    | _, _ => none
  | _ => none

/-! ### Calls -/

def noSl : V → Bool
  | .t x => (match x with | .int .. | .bool _ | .str _ | .nilp | .nilf | .nili => true | _ => false)
  | .tup vs => vs.all fun v => match v with | .t x => (match x with | .int .. | .bool _ | .str _ | .nilp | .nilf | .nili => true | _ => false) | _ => false
  | _ => false

def exp1 (H : Heap) : V → Option V
  | .ex xs => some (.ex xs)
  | v => (toT H depth v).map V.t

/-- What a function that has seen no heap hands back. -/
def exportV (H : Heap) : V → Option V
  | .ref id n => match cur H id n with
    | some o => if ((o.el.foldl (hold depth) H)[id]?).map (·.st) = some o.st then (o.el.mapM (toT H depth)).map fun xs => .fr o.esz o.st xs else none
    | none => none
  | .ex xs => some (.ex xs)
  | .tup vs => (vs.mapM (exp1 H)).map V.tup
  | v => (toT H depth v).map V.t

/-- What a function hands back that is never turned any more. -/
def exportD (H : Heap) : V → Option V
  | .tup vs => (vs.mapM (toT H depth)).map fun ts => .tup (ts.map .t)
  | v => (toT H depth v).map V.t

/-- Whose result the one that calls may go on writing. -/
def freshNames : List String := ["cupola/rel.clean", "cupola/rel.New", "cupola/cupolaref05.Pairs"]
def isFresh (P : Program) (f : FuncId) : Bool :=
  match P.funcs[f]? with
  | some fn => freshNames.contains fn.name
  | none => false
def exportB (b : Bool) (H : Heap) (v : V) : Option V := if b then exportV H v else exportD H v

/-- What was handed back, taken up. -/
def importV (H : Heap) : V → V × Heap
  | .fr esz st xs => (.ref H.length xs.length, H ++ [⟨xs.map .t, esz, st⟩])
  | v => (v, H)

abbrev CallFn := FuncId → List V → Heap → Option (V × Heap)

/-- A call: of data alone: beside the heap; else in it. -/
def callRun (P : Program) (call : CallFn) (f : FuncId) (args : List V) (H : Heap) : Option Res :=
  match args.mapM (toT H depth) with
  | some ts => match call f (ts.map .t) [] with
    | some (v, H1) => match exportB (isFresh P f) H1 v with
      | some u => some ⟨(importV (if noSl u then H else args.foldl (hold depth) H) u).1, (importV (if noSl u then H else args.foldl (hold depth) H) u).2, .none⟩
      | none => none
    | none => none
  | none => match call f args H with
    | some (v, H1) => some ⟨v, H1, .wild⟩
    | none => none

def opRunC (P : Program) (call : CallFn) (op : Op) (e : Env) (H : Heap) : Option Res :=
  match op with
  | .call { callee := .value f, args, .. } => match ev e f, evs e args.toList with
    | some (.t (.fn f)), some vs => callRun P call f vs H
    | some (.fn f a b), some vs => callRun P call f (a ++ vs ++ b) H
    | _, _ => none
  | op => opRun P op e H

/-! ### Regions -/

def yieldV (ops : Array Oper) (e : Env) (j : Nat) : Option (Option Bool) :=
  match (ops[j]?).bind (·.dst) with
  | some t => match e t with
    | .t (.bool b) => some (some b)
    | .dead => some none
    | _ => none
  | none => none

/-- Is an operation wanted? none: that isn't known. -/
def wantedV (ops : Array Oper) (e : Env) (o : Oper) : Option Bool :=
  match o.guard with
  | none => some true
  | some (j, want) => (yieldV ops e j).map (· == some want)

/-- What was done, and to which temporary that went. -/
abbrev Log := List (Option Tmp × Eff)

def Log.add (l : Log) (d : Option Tmp) : Eff → Log
  | .none => l
  | f => (d, f) :: l

def opsRun (P : Program) (call : CallFn) (ops : Array Oper) : List Oper → Env → Heap → Log → Option (Env × Heap × Log)
  | [], e, H, l => some (e, H, l)
  | o :: r, e, H, l => match wantedV ops e o with
    | some true => match opRunC P call o.op e H with
      | some ⟨v, H', f⟩ => opsRun P call ops r (putO e o.dst v) H' (l.add o.dst f)
      | none => none
    | some false => opsRun P call ops r (putO e o.dst .dead) H l
    | none => none

/-! ### What is asked of the text alone -/

/-- That makes nothing, and writes nothing. -/
def lightOp : Op → Bool
  | .move _ | .assign _ | .pick _ _ _ | .load _ _ | .nilCheck _ | .binOp .. | .unOp .. | .convert .. | .makeFunc .. | .build .. | .buildSlice .. | .slice .. | .fieldAddr .. | .indexAddr .. | .index .. | .extract .. => true
  | .call { callee := .builtin .len, .. } | .call { callee := .builtin .min, .. } | .call { callee := .builtin .max, .. } => true
  | _ => false

/-- What stands apart: neither reads what the other made, and one of them is light. -/
def indep (ops : Array Oper) (x y : Oper) : Bool := x.apart ops y && y.apart ops x && (lightOp x.op || lightOp y.op)

/-- For each operation, those ahead of it. -/
def aheadStep (acc : List (List Nat)) (o : Oper) : List (List Nat) :=
  acc ++ [(o.after.toList.filter (Region.binds .any)).foldl (fun s ed => if s.contains ed.on then s else ed.on :: (s ++ acc.getD ed.on [])) []]
def aheadAll (l : List Oper) : List (List Nat) := l.foldl aheadStep []

/-- Of a region that draws, as it is written: edges point back; and of two that no edge orders, one is light, and neither reads what the other made. -/
def drawOk (ops : Array Oper) : Bool :=
  (List.range ops.size).all fun j => match ops[j]? with
    | none => false
    | some y => (y.after.toList.all fun ed => !Region.binds .any ed || decide (ed.on < j)) &&
      (List.range j).all fun i => ((aheadAll ops.toList).getD j []).contains i || match ops[i]? with
        | some x => indep ops x y
        | none => false

/-- Pairs that no edge orders: where their results go. -/
def loosePairs (ops : Array Oper) : List (Option Tmp × Option Tmp) :=
  (List.range ops.size).flatMap fun j => (List.range j).filterMap fun i =>
    if ((aheadAll ops.toList).getD j []).contains i then none else match ops[i]?, ops[j]? with
      | some x, some y => some (x.dst, y.dst)
      | _, _ => none

def Eff.isBad : Eff → Bool
  | .bad => true
  | _ => false

/-- May they change places? -/
def Eff.swaps : Eff → Eff → Bool
  | .load a, .grow b => a != b
  | .grow a, .load b => a != b
  | .load _, .wild => false
  | .wild, .load _ => false
  | _, _ => true

/-- May all that no edge orders change places? -/
def Log.fine (L : List (Option Tmp × Option Tmp)) (l : Log) : Bool :=
  L.all fun p => l.all fun a => (!(a.2.isBad) || (a.1 != p.1 && a.1 != p.2)) && l.all fun b => a.1 != p.1 || b.1 != p.2 || a.2.swaps b.2

def dstsOk (N : Nat) (ops : Array Oper) : Bool := ops.toList.all fun o => match o.dst with | some d => decide (d < N) | none => true

/-- What is asked of a code's text alone. -/
def codeOk (D : Array Oper → Bool) (N : Nat) : Code → Bool
  | .region _ ops d => dstsOk N ops && (!d || D ops)
  | .seq a b => codeOk D N a && codeOk D N b
  | .cond _ a b => codeOk D N a && codeOk D N b
  | .block _ b => codeOk D N b
  | .loop b => codeOk D N b
  | _ => true

def fnOk (D : Array Oper → Bool) (fn : Func) : Bool :=
  match fn.body with
  | some c => codeOk D fn.ntmps c && !(fn.name == "runtime.NumGoroutine")
  | none => true


/-! ### Code -/

inductive X where
  | n
  | exit (id : Nat)
  | ret

abbrev Out := Option (X × Env × Heap)

def iter (f : Env → Heap → Out) : Nat → Env → Heap → Out
  | 0, _, _ => none
  | k + 1, e, H => match f e H with
    | some (.n, e', H') => iter f k e' H'
    | r => r

def codeRun (P : Program) (call : CallFn) (m : Nat) : Code → Env → Heap → Out
  | .skip, e, H => some (.n, e, H)
  | .label _, e, H => some (.n, e, H)
  | .region _ ops false, e, H => (opsRun P call ops ops.toList e H []).map fun r => (.n, r.1, r.2.1)
  | .region _ ops true, e, H => match opsRun P call ops ops.toList e H [] with
    | some (e', H', l) => if l.fine (loosePairs ops) = true then some (.n, e', H') else none
    | none => none
  | .seq a b, e, H => match codeRun P call m a e H with
    | some (.n, e', H') => codeRun P call m b e' H'
    | r => r
  | .cond c a b, e, H => match ev e c with
    | some (.t (.bool true)) => codeRun P call m a e H
    | some (.t (.bool false)) => codeRun P call m b e H
    | _ => none
  | .block id b, e, H => match codeRun P call m b e H with
    | some (.exit id', e', H') => if id' = id then some (.n, e', H') else some (.exit id', e', H')
    | r => r
  | .loop b, e, H => iter (codeRun P call m b) m e H
  | .exit id, e, H => some (.exit id, e, H)
  | .ret, e, H => some (.ret, e, H)
  | _, _, _ => none

def resV (P : Program) (e : Env) (H : Heap) : ResultVar → Option V
  | .tmp t => some (e t)
  | .cell a t => (loadV H (tyOf P t) (e a)).map (·.v)

def resVs (P : Program) (e : Env) (H : Heap) : List ResultVar → Option (List V)
  | [] => some []
  | r :: rs => match resV P e H r, resVs P e H rs with
    | some v, some vs => some (v :: vs)
    | _, _ => none

def one : List V → V
  | [v] => v
  | vs => .tup vs

def enter (args : List V) : Env := fun t => (args[t]?).getD .dead

def funRun (P : Program) : Nat → CallFn
  | 0, _, _, _ => none
  | k + 1, f, args, H => match P.funcs[f]? with
    | some fn => if fnOk drawOk fn = true then (match fn.body with
      | some c => match codeRun P (funRun P k) k c (enter args) H with
        | some (.n, e, H') => (resVs P e H' fn.results.toList).map fun vs => (one vs, H')
        | some (.ret, e, H') => (resVs P e H' fn.results.toList).map fun vs => (one vs, H')
        | _ => none
      | none => none) else none
    | none => none

end Go.Sim
