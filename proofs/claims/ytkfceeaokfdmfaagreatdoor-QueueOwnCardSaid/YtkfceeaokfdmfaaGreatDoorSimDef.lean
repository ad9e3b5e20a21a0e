/- A part of the proof of a law of module cupola: SimDef, SimW. It has no conditions of its own. -/
import Derived.Orders
set_option linter.all false
namespace Go.Sim


inductive T where
  | int (k : IntKind) (n : Int)
  | bool (b : Bool)
  | str (s : ByteArray)
  | sl (xs : List T)
  | agg (cs : List T)
  | tup (vs : List T)
  | fn (f : FuncId)
  | nilp
  | nilf
  | nilm
  | nili
  | iface (t : TypeId) (v : T)
  | opq

def T.cells : T → List T
  | .agg cs => cs
  | x => [x]

def T.isAgg : T → Bool
  | .agg _ => true
  | _ => false

inductive V where
  | t (x : T)
  | ex (xs : List T)
  | fr (esz : Nat) (st : Bool) (xs : List T)
  | ref (id n : Nat)
  | ptr (id n i off : Nat)
  | tp (xs : List T) (i off : Nat)
  | agg (cs : List V)
  | tup (vs : List V)
  | fn (f : FuncId) (first caps : List V)
  | mp (id : Nat)
  | ifc (t : TypeId) (x : V)
  | dead

def V.cells : V → List V
  | .agg cs => cs
  | .t (.agg cs) => cs.map .t
  | x => [x]

def V.isAgg : V → Bool
  | .agg _ => true
  | .t x => x.isAgg
  | _ => false

def V.cell1 : V → Bool
  | .t x => (match x with | .agg _ | .tup _ => false | _ => true)
  | .agg _ | .tup _ | .dead | .fr .. => false
  | _ => true

def V.storable (v : V) : Bool := !v.cells.isEmpty && v.cells.all V.cell1

def allT : List V → Option (List T)
  | [] => some []
  | .t x :: r => (allT r).map (x :: ·)
  | _ => none

def mkAgg (cs : List V) : V :=
  match allT cs with
  | some ts => .t (.agg ts)
  | none => .agg cs

def ofScalar : Value → Option V
  | .bool b => some (.t (.bool b))
  | .int k n => some (.t (.int k n))
  | .string s => some (.t (.str s))
  | .slice none 0 0 => some (.ex [])
  | .pointer none => some (.t .nilp)
  | .map none => some (.t .nilm)
  | .nilFunc => some (.t .nilf)
  | .nilIface => some (.t .nili)
  | .func (.func f) first caps => if first = #[] ∧ caps = #[] then some (.t (.fn f)) else none
  | _ => none

def ofVal : Value → Option V
  | .agg cs => (cs.toList.mapM ofScalar).map mkAgg
  | v => ofScalar v


structure Obj where
  el : List V
  esz : Nat
  st : Bool

def Obj.gone (o : Obj) : Bool := match o.el with
  | .dead :: _ => true
  | _ => false
abbrev Heap := List Obj

def cur (H : Heap) (id n : Nat) : Option Obj :=
  match H[id]? with
  | some o => if o.el.length = n then some o else none
  | none => none

def toT (H : Heap) : Nat → V → Option T
  | _, .t x => some x
  | _, .ex xs => some (.sl xs)
  | d + 1, .ref id n => match cur H id n with
    | some o => (o.el.mapM (toT H d)).map T.sl
    | none => none
  | d + 1, .agg cs => (cs.mapM (toT H d)).map T.agg
  | _, _ => none

def depth : Nat := 4

def hold : Nat → Heap → V → Heap
  | d + 1, H, .ref id n => match cur H id n with
    | some o => o.el.foldl (hold d) (H.set id { o with st := true })
    | none => H
  | d + 1, H, .agg cs => cs.foldl (hold d) H
  | _, H, _ => H

def rdV (v : V) (esz off : Nat) (a : Bool) (sz : Nat) : Option V :=
  if a then
    if off = 0 ∧ sz = esz ∧ v.isAgg = true then some v
    else if off + sz ≤ v.cells.length then some (mkAgg ((v.cells.drop off).take sz)) else none
  else v.cells[off]?

def wrV (v : V) (esz off : Nat) (u : V) : Option V :=
  if off = 0 ∧ u.cells.length = esz then some u
  else if off + u.cells.length ≤ v.cells.length then some (mkAgg (v.cells.take off ++ u.cells ++ v.cells.drop (off + u.cells.length))) else none


inductive Kd where
  | bool
  | int (k : IntKind)
  | str
  | sl (e : TypeId)
  | arr (n : Nat) (e : TypeId)
  | struct
  | fn
  | ptr
  | map
  | other

def kdOf (P : Program) (t : TypeId) : Kd :=
  match P.underlying t with
  | some .bool => .bool
  | some (.int k) => .int k
  | some .string => .str
  | some (.slice e) => .sl e
  | some (.array n e) => .arr n e
  | some (.struct _) => .struct
  | some (.func _ _ _) => .fn
  | some (.pointer _) => .ptr
  | some (.map _ _) => .map
  | _ => .other

def isAggT (P : Program) (t : TypeId) : Bool :=
  match P.underlying t with
  | some (.struct _) => true
  | some (.array ..) => true
  | _ => false

def tyOf (P : Program) (t : TypeId) : Option (Bool × Nat) :=
  match P.underlying t, P.info? t with
  | some _, some i => some (isAggT P t, i.size)
  | _, _ => none

def infoOf (P : Program) (t : TypeId) : Option (Nat × Nat) := (P.info? t).map fun i => (i.size, i.bytes)

def fldOf (P : Program) (s : TypeId) (f : Nat) : Option (Nat × Nat) :=
  match P.underlying s with
  | some (.struct fs) => (fs[f]?).bind fun fd => (P.info? fd.type).map fun i => (fd.offset, i.size)
  | _ => none

def fld1 (P : Program) (s : TypeId) (f : Nat) : Option Nat :=
  match P.underlying s with
  | some (.struct fs) => (fs[f]?).bind fun fd => if tyOf P fd.type = some (false, 1) then some fd.offset else none
  | _ => none
def fieldC (p : Option Nat) (v : V) : Option V := p.bind fun off => if v.isAgg then v.cells[off]? else none

def fldsOf (P : Program) (s : TypeId) : Option (List (Nat × Nat)) :=
  match P.underlying s with
  | some (.struct fs) => fs.toList.mapM fun fd => (P.info? fd.type).map fun i => (fd.offset, i.size)
  | _ => none

def zeroV (P : Program) (t : TypeId) : Option V :=
  match P.info? t with
  | some i => i.zero.bind ofVal
  | none => none


abbrev Env := Nat → V

def put (e : Env) (t : Nat) (v : V) : Env := fun x => if x = t then v else e x

def putO (e : Env) (t : Option Tmp) (v : V) : Env :=
  match t with
  | some t => put e t v
  | none => e

def ev (e : Env) : Operand → Option V
  | .tmp t => some (e t)
  | .const v => ofVal v
  | .func f => some (.t (.fn f))
  | .global _ => none


def intBin (op : BinOp) (k : IntKind) (a b : Int) : Option T :=
  match op with
  | .add => some (.int k (k.wrap (a + b)))
  | .sub => some (.int k (k.wrap (a - b)))
  | .mul => some (.int k (k.wrap (a * b)))
  | .quo => if b = 0 then none else some (.int k (k.wrap (a.tdiv b)))
  | .rem => if b = 0 then none else some (.int k (a.tmod b))
  | .and => some (.int k (k.wrap (BitVec.ofInt k.bits a &&& BitVec.ofInt k.bits b).toNat))
  | .or => some (.int k (k.wrap (BitVec.ofInt k.bits a ||| BitVec.ofInt k.bits b).toNat))
  | .xor => some (.int k (k.wrap (BitVec.ofInt k.bits a ^^^ BitVec.ofInt k.bits b).toNat))
  | .andNot => some (.int k (k.wrap (BitVec.ofInt k.bits a &&& ~~~ BitVec.ofInt k.bits b).toNat))
  | .eql => some (.bool (a == b))
  | .neq => some (.bool (a != b))
  | .lss => some (.bool (decide (a < b)))
  | .leq => some (.bool (decide (a ≤ b)))
  | .gtr => some (.bool (decide (a > b)))
  | .geq => some (.bool (decide (a ≥ b)))
  | _ => none

def strBin (op : BinOp) (x y : ByteArray) : Option T :=
  match op with
  | .add => if ((x.size + y.size : Nat) : Int) > IntKind.i64.max then none else some (.str (x ++ y))
  | .eql => some (.bool (x.toList == y.toList))
  | .neq => some (.bool (!(x.toList == y.toList)))
  | .lss => some (.bool (Op.bytesLess x.toList y.toList))
  | .leq => some (.bool (Op.bytesLess x.toList y.toList || x.toList == y.toList))
  | .gtr => some (.bool (!(Op.bytesLess x.toList y.toList || x.toList == y.toList)))
  | .geq => some (.bool (!Op.bytesLess x.toList y.toList))
  | _ => none

def eqNil (op : BinOp) (b : Bool) : Option T :=
  match op with
  | .eql => some (.bool b)
  | .neq => some (.bool (!b))
  | _ => none

def Kd.isBool : Kd → Bool
  | .bool => true
  | _ => false
def Kd.isFn : Kd → Bool
  | .fn => true
  | _ => false
def Kd.isMap : Kd → Bool
  | .map => true
  | _ => false
def Kd.isPtr : Kd → Bool
  | .ptr => true
  | _ => false

def binT (op : BinOp) (kd : Kd) (x y : T) : Option T :=
  match x, y with
  | .int k a, .int k' b =>
    match op with
    | .shl => if b < 0 then none else some (.int k (k.wrap (a * 2 ^ min b.toNat k.bits)))
    | .shr => if b < 0 then none else some (.int k (a.fdiv (2 ^ min b.toNat k.bits)))
    | op => if k = k' then intBin op k a b else none
  | .str a, .str b => strBin op a b
  | .bool a, .bool b => if kd.isBool then (match op with | .eql => some (.bool (a == b)) | .neq => some (.bool (!(a == b))) | _ => none) else none
  | .nilf, .nilf => if kd.isFn then eqNil op true else none
  | .fn _, .nilf => if kd.isFn then eqNil op false else none
  | .nilf, .fn _ => if kd.isFn then eqNil op false else none
  | .nilp, .nilp => if kd.isPtr then eqNil op true else none
  | .nilm, .nilm => if kd.isMap then eqNil op true else none
  | _, _ => none

def unT (op : UnOp) (x : T) : Option T :=
  match op, x with
  | .neg, .int k n => some (.int k (k.wrap (0 - n)))
  | .not, .bool b => some (.bool (!b))
  | .xor, .int k n => some (.int k (k.wrap (BitVec.ofInt k.bits (if k.signed then -1 else k.max) ^^^ BitVec.ofInt k.bits n).toNat))
  | _, _ => none


inductive Eff where
  | none
  | load (id : Nat)
  | grow (id : Nat)
  | wild
  | bad
  | ran (H H1 : Heap)

structure Res where
  v : V
  H : Heap
  eff : Eff

def effP : V → Eff
  | .ptr id _ _ _ => .load id
  | _ => .none
def effL : V → Eff
  | .ref id _ => .load id
  | _ => .none
def effS : V → Eff
  | .t _ | .ex _ => .none
  | _ => .bad
def effB : List V → Eff
  | [] => .none
  | .t _ :: r | .ex _ :: r => effB r
  | _ => .bad

def ret (v : V) (H : Heap) : Option Res := some ⟨v, H, .none⟩

def slOf (H : Heap) : V → Option (List V)
  | .t (.sl xs) => some (xs.map .t)
  | .ex xs => some (xs.map .t)
  | .ref id n => (cur H id n).map (·.el)
  | _ => none

def lenOf (H : Heap) : V → Option Nat
  | .t (.str s) => some s.size
  | .t (.sl xs) => some xs.length
  | .ex xs => some xs.length
  | .ref id n => (cur H id n).map (fun _ => n)
  | _ => none

def indexV (H : Heap) (k : Kd) (sz : Nat) (x : V) (i : Int) : Option V :=
  match k, x with
  | .sl _, .t (.sl xs) => (xs[i.toNat]?).bind fun y => if 0 ≤ i ∧ y.cells.length = sz ∧ 0 < sz then some (.tp xs i.toNat 0) else none
  | .sl _, .ex xs => (xs[i.toNat]?).bind fun y => if 0 ≤ i ∧ y.cells.length = sz ∧ 0 < sz then some (.tp xs i.toNat 0) else none
  | .sl _, .ref id n => (cur H id n).bind fun o => if 0 ≤ i ∧ i < n ∧ o.esz = sz ∧ 0 < sz then some (.ptr id n i.toNat 0) else none
  | .arr len _, .ptr id n j off => if 0 ≤ i ∧ i < len ∧ 0 < sz then some (.ptr id n j (off + i.toNat * sz)) else none
  | .arr len _, .tp xs j off => if 0 ≤ i ∧ i < len ∧ 0 < sz then some (.tp xs j (off + i.toNat * sz)) else none
  | _, _ => none

def elemSz (P : Program) : Kd → Nat
  | .sl e => ((infoOf P e).map (·.1)).getD 0
  | .arr _ e => ((infoOf P e).map (·.1)).getD 0
  | _ => 0

def fieldV (p : Option (Nat × Nat)) (x : V) : Option V :=
  match p, x with
  | some (off, sz + 1), .ptr id n i o => some (.ptr id n i (o + off))
  | some (off, sz + 1), .tp xs i o => some (.tp xs i (o + off))
  | _, _ => none

def loadV (H : Heap) (ty : Option (Bool × Nat)) (x : V) : Option Res :=
  match ty, x with
  | some (a, sz), .ptr id n i off => (cur H id n).bind fun o => (o.el[i]?).bind fun v => (rdV v o.esz off a sz).bind fun u => some ⟨u, H, .load id⟩
  | some (a, sz), .tp xs i off => (xs[i]?).bind fun x => (rdV (.t x) x.cells.length off a sz).bind fun u => some ⟨u, H, .none⟩
  | _, _ => none

def storeV (H : Heap) (ty : Option (Bool × Nat)) (x u : V) : Option Res :=
  match ty, x with
  | some (_, sz), .ptr id n i off => (cur H id n).bind fun o => (o.el[i]?).bind fun v =>
      if o.st = false ∧ u.storable = true ∧ u.cells.length = sz then
        (wrV v o.esz off u).bind fun v' => some ⟨.dead, H.set id { o with el := o.el.set i v' }, .grow id⟩ else none
  | _, _ => none

def fillV : List V → List (Nat × Nat × V) → Option (List V)
  | cs, [] => some cs
  | cs, (off, sz, v) :: r => if v.cells.length = sz ∧ off + sz ≤ cs.length then fillV (cs.take off ++ v.cells ++ cs.drop (off + sz)) r else none

def placesV (pl : Nat → Option (Nat × Nat)) : List (Nat × V) → Option (List (Nat × Nat × V))
  | [] => some []
  | (i, v) :: r => (pl i).bind fun p => (placesV pl r).bind fun l => some ((p.1, p.2, v) :: l)

def plOf (P : Program) (t : TypeId) : Option (Nat → Option (Nat × Nat)) :=
  match kdOf P t with
  | .struct => (fldsOf P t).map fun fl i => fl[i]?
  | .arr _ e => (infoOf P e).map fun p i => some (i * p.1, p.1)
  | _ => none

def buildV (P : Program) (t : TypeId) (parts : List (Nat × V)) : Option V :=
  (zeroV P t).bind fun z => (plOf P t).bind fun pl => (placesV pl parts).bind fun l => (fillV z.cells l).bind fun cs => some (mkAgg cs)

def litV (H : Heap) : List T → List (Nat × V) → Option (List T)
  | l, [] => some l
  | l, (i, v) :: r => if i < l.length then (toT H depth v).bind fun x => litV H (l.set i x) r else none

def roomOk (n bytes : Nat) : Bool := decide (n * bytes ≤ 2 ^ 46)

def makeV (P : Program) (H : Heap) (k : Kd) (l c : Int) : Option Res :=
  match k with
  | .sl e => (infoOf P e).bind fun i => (zeroV P e).bind fun z =>
      if 0 ≤ l ∧ l ≤ c ∧ roomOk c.toNat i.2 = true ∧ z.cells.length = i.1 ∧ z.storable = true ∧ 0 < i.1 ∧ 0 < i.2 then
        some ⟨.ref H.length l.toNat, H ++ [⟨List.replicate l.toNat z, i.1, false⟩], .none⟩ else none
  | _ => none

def fits (sz : Nat) (y : V) : Bool := y.storable && y.cells.length == sz

def row1 (i : Nat × Nat) (z : V) : Option (Nat × Nat) := if z.cells.length = i.1 ∧ 0 < i.1 ∧ 0 < i.2 then some i else none
def rowOf (P : Program) (e : TypeId) : Option (Nat × Nat) :=
  match infoOf P e, zeroV P e with
  | some i, some z => row1 i z
  | _, _ => none

def appendV (i : Option (Nat × Nat)) (H : Heap) (s : V) (ys : List V) : Option Res :=
  i.bind fun i =>
    if ys.all (fits i.1) = true then
      match s with
      | .ex xs => if ys.isEmpty = true then ret (.ex xs) H
        else if roomOk (xs.length + ys.length) i.2 = true ∧ (xs.map V.t).all (fits i.1) = true then
          some ⟨.ref H.length (xs.length + ys.length), H ++ [⟨xs.map .t ++ ys, i.1, false⟩], .none⟩ else none
      | .ref id n => (cur H id n).bind fun o => if ys.isEmpty = true then ret (.ref id n) H
          else if roomOk (n + ys.length) i.2 = true ∧ o.esz = i.1 then
            some ⟨.ref id (n + ys.length), H.set id { o with el := o.el ++ ys }, .grow id⟩ else none
      | _ => none
    else none

def bound (x : Option V) (d : Nat) : Option Nat :=
  match x with
  | none => some d
  | some (.t (.int _ n)) => if 0 ≤ n then some n.toNat else none
  | _ => none

def partS (H : Heap) (s : ByteArray) (lo hi mx : Option V) : Option Res :=
  match mx, bound lo 0, bound hi s.size with
  | none, some l, some h => if l ≤ h ∧ h ≤ s.size then ret (.t (.str (s.extract l h))) H else none
  | _, _, _ => none

def partV (H : Heap) (sz : Nat) (x : V) (lo hi mx : Option V) : Option Res :=
  match slOf H x, toT H depth x with
  | some el, some (.sl xs) => match bound lo 0, bound hi el.length, bound mx el.length with
    | some l, some h, some m => if l ≤ h ∧ h ≤ m ∧ m ≤ el.length ∧ xs.length = el.length ∧ 0 < sz ∧ (mx.isNone || hi.isSome) = true ∧ (l = 0 ∨ ((xs[l]?).all fun y => y.cells.length == sz) = true) then
        some ⟨if mx.isSome = true ∧ m = h then .ex ((xs.take h).drop l) else .t (.sl ((xs.take h).drop l)), hold depth H x, effS x⟩ else none
    | _, _, _ => none
  | _, _ => none

def arrSl (H : Heap) (n sz id m i off : Nat) : Option Res :=
  (cur H id m).bind fun o => (o.el[i]?).bind fun v => (allT ((v.cells.drop off).take n)).bind fun xs =>
    if sz = 1 ∧ 0 < n ∧ xs.length = n ∧ (xs.all fun x => (V.t x).cell1) = true then some ⟨.t (.sl xs), H.set id { o with st := true }, .none⟩ else none

def asInt : V → Option Int
  | .t (.int _ n) => some n
  | _ => none

def optEv (e : Env) : Option Operand → Option (Option V)
  | none => some none
  | some x => (ev e x).map some

def evs (e : Env) : List Operand → Option (List V)
  | [] => some []
  | x :: r => match ev e x, evs e r with
    | some v, some vs => some (v :: vs)
    | _, _ => none

def evParts (e : Env) : List (Nat × Operand) → Option (List (Nat × V))
  | [] => some []
  | (i, x) :: r => match ev e x, evParts e r with
    | some v, some vs => some ((i, v) :: vs)
    | _, _ => none

def copyV (sz : Nat) (H : Heap) (d s : V) : Option Res :=
  match d, slOf H s with
  | .ref id n, some ys => match cur H id n with
    | some o => if o.st = false ∧ o.esz = sz ∧ (ys.all fun y => y.storable && y.cells.length == o.esz) = true then
        some ⟨.t (.int .i64 (min n ys.length : Nat)), H.set id { o with el := ys.take n ++ o.el.drop ys.length }, .wild⟩ else none
    | none => none
  | _, _ => none

def strK : V → Option ByteArray
  | .t (.str s) => some s
  | _ => none
def keysOf (o : Obj) : Option (List ByteArray) := if o.esz = 0 then o.el.mapM strK else none
def mapSB (P : Program) (t : TypeId) : Bool := match P.underlying t with
  | some (.map k e) => (match P.underlying k, zeroV P e with
    | some .string, some (.t (.bool false)) => true
    | _, _ => false)
  | _ => false
def lookM (H : Heap) : V → V → Option Res
  | .t .nilm, .t (.str _) => some ⟨.t (.bool false), H, .none⟩
  | .mp id, .t (.str s) => (H[id]?).bind fun o => (keysOf o).bind fun ks => some ⟨.t (.bool (ks.contains s)), H, .none⟩
  | _, _ => none
def updM (H : Heap) : V → V → V → Option Res
  | .mp id, .t (.str s), .t (.bool true) => (H[id]?).bind fun o => (keysOf o).bind fun ks => some ⟨.dead, if ks.contains s = true then H else H.set id { o with el := o.el ++ [.t (.str s)] }, .grow id⟩
  | _, _, _ => none
def lenT (H : Heap) (k : Kd) (x : V) : Option Res :=
  match k, x with
  | .map, .t .nilm => some ⟨.t (.int .i64 0), H, .none⟩
  | .map, .mp id => (H[id]?).bind fun o => (keysOf o).bind fun ks => some ⟨.t (.int .i64 ks.length), H, .bad⟩
  | .str, .t (.str s) => ret (.t (.int .i64 s.size)) H
  | .sl _, .t (.str _) => none
  | .sl _, x => (lenOf H x).bind fun n => some ⟨.t (.int .i64 n), H, effL x⟩
  | _, _ => none

def leafEq (P : Program) (t : TypeId) (x y : T) : Option Bool :=
  match kdOf P t, x, y with
  | .int _, .int k a, .int k' b => if k = k' then some (a == b) else none
  | .bool, .bool a, .bool b => some (a == b)
  | _, _, _ => none

def eqFs (P : Program) (xs ys : List T) : List Field → Option Bool
  | [] => some true
  | f :: fs => if f.name ≠ "_" then match xs[f.offset]?, ys[f.offset]? with
      | some x, some y => (leafEq P f.type x y).bind fun r => if r = true then eqFs P xs ys fs else some false
      | _, _ => none
    else none

def fieldsT (P : Program) (t : TypeId) : List Field :=
  match P.underlying t with
  | some (.struct fs) => fs.toList
  | _ => []

def aggEq (P : Program) (op : BinOp) (t : TypeId) (xs ys : List T) : Option T :=
  match kdOf P t with
  | .struct => if P.stoodInHeld t = false ∧ P.eqGuardType P.depth t = false then (eqFs P xs ys (fieldsT P t)).bind fun r => match op with
      | .eql => some (.bool r)
      | .neq => some (.bool (!r))
      | _ => none
    else none
  | _ => none

def binS (P : Program) (op : BinOp) (t : TypeId) (a b : T) : Option T :=
  match a, b with
  | .agg xs, .agg ys => aggEq P op t xs ys
  | a, b => binT op (kdOf P t) a b

def binV (P : Program) (op : BinOp) (t : TypeId) : V → V → Option T
  | .t a, .t b => binS P op t a b
  | .ptr .., .t .nilp => if (kdOf P t).isPtr then eqNil op false else none
  | .t .nilp, .ptr .. => if (kdOf P t).isPtr then eqNil op false else none
  | .tp .., .t .nilp => if (kdOf P t).isPtr then eqNil op false else none
  | .t .nilp, .tp .. => if (kdOf P t).isPtr then eqNil op false else none
  | .mp _, .t .nilm => if (kdOf P t).isMap then eqNil op false else none
  | _, _ => none

def bytesT : List T → Option (List UInt8)
  | [] => some []
  | .int .u8 n :: r => (bytesT r).map (UInt8.ofNat n.toNat :: ·)
  | _ => none
def Kd.isU8 : Kd → Bool
  | .int .u8 => true
  | _ => false
def convV (P : Program) (s d : Kd) (v : V) (H : Heap) : Option Res :=
  match s, d, v with
  | .int _, .int k, .t (.int _ n) => ret (.t (.int k (k.wrap n))) H
  | .str, .str, .t (.str s) => ret (.t (.str s)) H
  | .sl el, .str, .ex xs => if (kdOf P el).isU8 = true then (bytesT xs).bind fun b => ret (.t (.str ⟨b.toArray⟩)) H else none
  | _, _, _ => none

def nilL (len : Nat) : List (Nat × Operand) → Bool
  | [(0, .const (.slice none 0 0))] => len == 1
  | _ => false
def bigI : Option (Nat × Nat) → Bool
  | some (n, _) => n != 1
  | none => false
def bigEl (P : Program) (el : TypeId) : Bool := match kdOf P el, infoOf P el, zeroV P el with
  | .sl e, some (1, _), some _ => bigI (infoOf P e)
  | _, _, _ => false

def liveL (len : Nat) : List (Nat × Operand) → Bool
  | [(0, .tmp 46)] => len == 1
  | _ => false
def oneEl (P : Program) (el : TypeId) : Bool := match infoOf P el, zeroV P el with
  | some (1, _), some _ => true
  | _, _ => false
def litP : Option (List (Nat × V)) → Option V
  | some [(0, .ref id n)] => some (.ref id n)
  | _ => none
def liveOf (P : Program) (el : TypeId) (len : Nat) (parts : List (Nat × Operand)) (l : Option (List (Nat × V))) : Option V := if (liveL len parts && oneEl P el) = true then litP l else none
def litR (x : Option V) (H : Heap) (old : Option Res) : Option Res := match x with
  | some v => some ⟨.ref H.length 1, H ++ [⟨[v], 1, false⟩], .none⟩
  | none => old

def cutTy (P : Program) (t : TypeId) : Bool := match P.info? t with
  | some i => !i.methods.isEmpty && (match kdOf P t with
    | .sl e => decide (0 < elemSz P (.sl e))
    | _ => false)
  | none => false
def cutV (H : Heap) (id n : Nat) (k : Int) : Option Res :=
  (cur H id n).bind fun o => if 0 ≤ k ∧ k ≤ n ∧ 0 < o.esz ∧ o.st = false then
    some ⟨.ref H.length k.toNat, H.set id ⟨.dead :: o.el, 0, true⟩ ++ [⟨o.el.take k.toNat, o.esz, false⟩], .wild⟩ else none
def cutR (H : Heap) : V → Option V → Option V → Option V → Option Res
  | .ref id n, none, some (.t (.int _ k)), none => cutV H id n k
  | _, _, _, _ => none
def solid (P : Program) (t : TypeId) : Bool := match P.underlying t with
  | some (.interface _) => false
  | some _ => true
  | none => false
def ifcV (t : TypeId) : V → Option V
  | .t x => some (.t (.iface t x))
  | .ptr a b c d => some (.ifc t (.ptr a b c d))
  | _ => none
def assertV (t : TypeId) : V → Option V
  | .t (.iface t' x) => if t' = t then some (.tup [.t x, .t (.bool true)]) else none
  | _ => none
def methOf (P : Program) (t : TypeId) (name : String) : Option (FuncId × Option TypeId) :=
  (P.info? t).bind fun i => (i.methods.find? (·.name == name)).bind fun m => match m.path.isEmpty, P.underlying t, m.func with
    | true, some (.pointer _), some (f, true) => some (f, none)
    | true, some (.pointer el), some (f, false) => some (f, some el)
    | _, _, _ => none
def recvK (P : Program) (H : Heap) (x : V) : FuncId × Option TypeId → Option (FuncId × V)
  | (f, none) => some (f, x)
  | (f, some el) => (loadV H (tyOf P el) x).map fun r => (f, r.v)
def recvOf (P : Program) (H : Heap) (name : String) : V → Option (FuncId × V)
  | .ifc t x => (methOf P t name).bind fun p => match p.2 with
    | none => some (p.1, x)
    | some el => (loadV H (tyOf P el) x).map fun r => (p.1, r.v)
  | _ => none

def opRun (P : Program) (op : Op) (e : Env) (H : Heap) : Option Res :=
  match op with
  | .move x | .assign x => (ev e x).bind (ret · H)
  | .pick c a b => match ev e c with
    | some (.t (.bool true)) => (ev e a).bind (ret · H)
    | some (.t (.bool false)) => (ev e b).bind (ret · H)
    | _ => none
  | .alloc t => match zeroV P t with
    | some z => if z.storable = true then some ⟨.ptr H.length 1 0 0, H ++ [⟨[z], z.cells.length, false⟩], .none⟩ else none
    | none => none
  | .box _ x => match ev e x with
    | some v => if v.storable = true then some ⟨.ptr H.length 1 0 0, H ++ [⟨[v], v.cells.length, false⟩], .none⟩ else none
    | none => none
  | .build t parts => match evParts e parts.toList with
    | some l => (buildV P t l).bind (ret · H)
    | none => none
  | .buildSlice t len parts => match kdOf P t with
    | .sl el => if (nilL len parts.toList && bigEl P el) = true then some ⟨.ref H.length 1, H ++ [⟨[.ex []], 1, false⟩], .none⟩ else
      litR (liveOf P el len parts.toList (evParts e parts.toList)) H ((evParts e parts.toList).bind fun l => (zeroV P el).bind fun z => (infoOf P el).bind fun i => (toT H depth z).bind fun z' =>
        if len * i.1 ≤ 2 ^ 24 ∧ z'.cells.length = i.1 ∧ 0 < i.1 ∧ 0 < i.2 ∧ (l.all fun p => p.2.cells.length == i.1) = true then
          (litV H (List.replicate len z') l).bind fun xs => some ⟨.ex xs, (l.map (·.2)).foldl (hold depth) H, effB (l.map (·.2))⟩ else none)
    | _ => none
  | .load t x => (ev e x).bind (loadV H (tyOf P t))
  | .store t x y => match ev e x, ev e y with
    | some a, some u => storeV H (tyOf P t) a u
    | _, _ => none
  | .nilCheck x => match ev e x with
    | some (.ptr id n i off) => ret (.ptr id n i off) H
    | some (.tp xs i off) => ret (.tp xs i off) H
    | some (.t (.fn f)) => ret (.t (.fn f)) H
    | some (.fn f a b) => ret (.fn f a b) H
    | _ => none
  | .binOp op t x y _ => match ev e x, ev e y with
    | some a, some b => (binV P op t a b).bind fun c => ret (.t c) H
    | _, _ => none
  | .unOp op _ x => match ev e x with
    | some (.t a) => (unT op a).bind fun c => ret (.t c) H
    | _ => none
  | .convert s d x => (ev e x).bind fun v => convV P (kdOf P s) (kdOf P d) v H
  | .makeFunc (.func f) first caps => match evs e first.toList, evs e caps.toList with
    | some [], some [] => ret (.t (.fn f)) H
    | some a, some b => ret (.fn f a b) H
    | _, _ => none
  | .makeSlice t l c => match ev e l, ev e c with
    | some (.t (.int _ l)), some (.t (.int _ c)) => makeV P H (kdOf P t) l c
    | _, _ => none
  | .makeMap t none => if mapSB P t = true then some ⟨.mp H.length, H ++ [⟨[], 0, false⟩], .none⟩ else none
  | .lookup t x k false => match ev e x, ev e k with
    | some a, some b => if mapSB P t = true then lookM H a b else none
    | _, _ => none
  | .mapUpdate t x k y => match ev e x, ev e k, ev e y with
    | some a, some b, some c => if mapSB P t = true then updM H a b c else none
    | _, _, _ => none
  | .makeInterface t x => if solid P t = true then (ev e x).bind fun v => (ifcV t v).bind (ret · H) else none
  | .typeAssert x _ t true => if solid P t = true then (ev e x).bind fun v => (assertV t v).bind (ret · H) else none
  | .slice t x lo hi mx => if cutTy P t = true then (ev e x).bind fun v => (optEv e lo).bind fun l => (optEv e hi).bind fun h => (optEv e mx).bind fun m => cutR H v l h m else match kdOf P t, ev e x, optEv e lo, optEv e hi, optEv e mx with
    | .str, some (.t (.str s)), some l, some h, some m => partS H s l h m
    | .sl el, some v, some l, some h, some m => partV H (elemSz P (.sl el)) v l h m
    | .arr n el, some (.ptr id k i off), some none, some none, some none => arrSl H n (elemSz P (.arr n el)) id k i off
    | _, _, _, _, _ => none
  | .field s x f => (ev e x).bind fun v => (fieldC (fld1 P s f) v).bind (ret · H)
  | .fieldAddr s x f => (ev e x).bind fun v => (fieldV (fldOf P s f) v).bind (ret · H)
  | .indexAddr t x i => (ev e x).bind fun v => ((ev e i).bind asInt).bind fun n => (indexV H (kdOf P t) (elemSz P (kdOf P t)) v n).bind fun u => some ⟨u, H, effP u⟩
  | .index t x i => match kdOf P t, ev e x, (ev e i).bind asInt with
    | .str, some (.t (.str s)), some n => if 0 ≤ n ∧ n < s.size then ret (.t (.int .u8 (s.get! n.toNat).toNat)) H else none
    | .arr len el, some (.t (.agg cs)), some n => if 0 ≤ n ∧ n < len ∧ (tyOf P el == some (false, 1)) = true then (cs[n.toNat]?).bind fun x => ret (.t x) H else none
    | .arr len el, some (.agg cs), some n => if 0 ≤ n ∧ n < len ∧ (tyOf P el == some (false, 1)) = true then (cs[n.toNat]?).bind fun x => ret x H else none
    | _, _, _ => none
  | .extract x i => match ev e x with
    | some (.tup vs) => (vs[i]?).bind (ret · H)
    | some (.t (.tup vs)) => (vs[i]?).bind (fun x => ret (.t x) H)
    | _ => none
  | .call { callee := .builtin b, args, argTypes } => match b, evs e args.toList with
    | .len, some [x] => (argTypes[0]?).bind fun t => lenT H (kdOf P t) x
    | .append, some [s, x] => (argTypes[0]?).bind fun t => (argTypes[1]?).bind fun xt => match kdOf P t, kdOf P xt with
      | .sl e, .sl _ => (slOf H x).bind fun ys => appendV (rowOf P e) H s ys
      | _, _ => none
    | .copy, some [d, s] => (argTypes[0]?).bind fun t => match kdOf P t with
      | .sl e => copyV (elemSz P (.sl e)) H d s
      | _ => none
    | .min, some [.t (.int k a), .t (.int k' b)] => if k = k' then ret (.t (.int k (min a b))) H else none
    | .max, some [.t (.int k a), .t (.int k' b)] => if k = k' then ret (.t (.int k (max a b))) H else none
    | _, _ => none
  | _ => none


def noSl : V → Bool
  | .t x => (match x with | .int .. | .bool _ | .str _ | .nilp | .nilf | .nili => true | _ => false)
  | .tup vs => vs.all fun v => match v with | .t x => (match x with | .int .. | .bool _ | .str _ | .nilp | .nilf | .nili => true | _ => false) | _ => false
  | _ => false

def exp1 (H : Heap) : V → Option V
  | .ex xs => some (.ex xs)
  | v => (toT H depth v).map V.t

def exportV (H : Heap) : V → Option V
  | .ref id n => match cur H id n with
    | some o => if ((o.el.foldl (hold depth) H)[id]?).map (·.st) = some o.st then (o.el.mapM (toT H depth)).map fun xs => .fr o.esz o.st xs else none
    | none => none
  | .ex xs => some (.ex xs)
  | .tup vs => (vs.mapM (exp1 H)).map V.tup
  | v => (toT H depth v).map V.t

def exportD (H : Heap) : V → Option V
  | .tup vs => (vs.mapM (toT H depth)).map fun ts => .tup (ts.map .t)
  | v => (toT H depth v).map V.t

def freshNames : List String := ["cupola/rel.clean", "cupola/rel.New", "cupola/cupolaref05.Pairs", "slices.Clone[[]int64,int64]", "slices.Clone[[]int,int]", "slices.Clone[[]bool,bool]", "slices.Clone[[][]int,[]int]"]
def isFresh (P : Program) (f : FuncId) : Bool :=
  match P.funcs[f]? with
  | some fn => freshNames.contains fn.name
  | none => false
def exportB (b : Bool) (H : Heap) (v : V) : Option V := if b then exportV H v else exportD H v

def importV (H : Heap) : V → V × Heap
  | .fr esz st xs => (.ref H.length xs.length, H ++ [⟨xs.map .t, esz, st⟩])
  | v => (v, H)

abbrev CallFn := FuncId → List V → Heap → Option (V × Heap)

def V.isDead : V → Bool
  | .dead => true
  | _ => false

def V.inHeap : V → Bool
  | .dead => true
  | .fn .. => true
  | _ => false

def heapRun (call : CallFn) (f : FuncId) (args : List V) (H : Heap) : Option Res :=
  match call f args H with
  | some (v, H1) => if v.isDead = true then none else some ⟨v, H1, .ran H H1⟩
  | none => none

def callRun (P : Program) (call : CallFn) (f : FuncId) (args : List V) (H : Heap) : Option Res :=
  match args.mapM (toT H depth) with
  | some ts => match call f (ts.map .t) [] with
    | some (v, H1) => if v.inHeap = true then heapRun call f args H else match exportB (isFresh P f) H1 v with
      | some u => some ⟨(importV (if noSl u then H else args.foldl (hold depth) H) u).1, (importV (if noSl u then H else args.foldl (hold depth) H) u).2, .none⟩
      | none => none
    | none => none
  | none => heapRun call f args H

def opRunC (P : Program) (call : CallFn) (op : Op) (e : Env) (H : Heap) : Option Res :=
  match op with
  | .call { callee := .value f, args, .. } => match ev e f, evs e args.toList with
    | some (.t (.fn f)), some vs => callRun P call f vs H
    | some (.fn f a b), some vs => callRun P call f (a ++ vs ++ b) H
    | _, _ => none
  | .call { callee := .invoke x name, args, .. } => match ev e x, evs e args.toList with
    | some v, some vs => (recvOf P H name v).bind fun p => heapRun call p.1 (p.2 :: vs) H
    | _, _ => none
  | op => opRun P op e H


def yieldV (ops : Array Oper) (e : Env) (j : Nat) : Option (Option Bool) :=
  match (ops[j]?).bind (·.dst) with
  | some t => match e t with
    | .t (.bool b) => some (some b)
    | .dead => some none
    | _ => none
  | none => none

def wantedV (ops : Array Oper) (e : Env) (o : Oper) : Option Bool :=
  match o.guard with
  | none => some true
  | some (j, want) => (yieldV ops e j).map (· == some want)

abbrev Log := List (Option Tmp × Eff)

def Log.add (l : Log) (d : Option Tmp) : Eff → Log
  | .none => l
  | f => (d, f) :: l

def opsRun (P : Program) (call : CallFn) (ops : Array Oper) : List Oper → Env → Heap → Log → Option (Env × Heap × Log)
  | [], e, H, l => some (e, H, l)
  | o :: r, e, H, l => match wantedV ops e o with
    | some true => match opRunC P call o.op e H with
      | some ⟨v, H', f⟩ => opsRun P call ops r (putO e o.dst v) H' (l.add o.dst f)
      | none => none
    | some false => opsRun P call ops r (putO e o.dst .dead) H l
    | none => none


def lightOp : Op → Bool
  | .slice _ _ none none none => false
  | .slice _ _ none (some _) none => false
  | .buildSlice _ n p => !nilL n p.toList && !liveL n p.toList
  | .move _ | .assign _ | .pick _ _ _ | .load _ _ | .nilCheck _ | .binOp .. | .unOp .. | .convert .. | .makeFunc .. | .makeInterface .. | .build .. | .slice .. | .field .. | .fieldAddr .. | .indexAddr .. | .index .. | .extract .. => true
  | .call { callee := .builtin .len, .. } | .call { callee := .builtin .min, .. } | .call { callee := .builtin .max, .. } => true
  | _ => false

def indep (ops : Array Oper) (x y : Oper) : Bool := x.apart ops y && y.apart ops x && (lightOp x.op || lightOp y.op)

def aheadStep (acc : List (List Nat)) (o : Oper) : List (List Nat) :=
  acc ++ [(o.after.toList.filter (Region.binds .any)).foldl (fun s ed => if s.contains ed.on then s else ed.on :: (s ++ acc.getD ed.on [])) []]
def aheadAll (l : List Oper) : List (List Nat) := l.foldl aheadStep []

def drawOkX (late : Nat → Bool) (ops : Array Oper) : Bool :=
  (List.range ops.size).all fun j => match ops[j]? with
    | none => false
    | some y => (y.after.toList.all fun ed => !Region.binds .any ed || decide (ed.on < j)) &&
      (List.range j).all fun i => ((aheadAll ops.toList).getD j []).contains i || match ops[i]? with
        | some x => indep ops x y || (late j && (x.apart ops y && y.apart ops x))
        | none => false
def lateAt (ops : Array Oper) (j : Nat) : Bool :=
  (match ops[j]? with
   | some o => (match o.dst, o.op, o.guard with | some _, .alloc _, none => true | _, _, _ => false)
   | none => false) &&
  (List.range ops.size).all fun k => !((aheadAll ops.toList).getD k []).contains j || (List.range j).all fun i => ((aheadAll ops.toList).getD k []).contains i || match ops[i]?, ops[j]? with
    | some x, some y => indep ops x y
    | _, _ => false
def drawOk (ops : Array Oper) : Bool := drawOkX (fun _ => false) ops || (List.range ops.size).any fun j => lateAt ops j && drawOkX (fun k => k == j) ops

def loosePairs (ops : Array Oper) : List (Option Tmp × Option Tmp × Bool × Bool) :=
  (List.range ops.size).flatMap fun j => (List.range j).filterMap fun i =>
    if ((aheadAll ops.toList).getD j []).contains i then none else match ops[i]?, ops[j]? with
      | some x, some y => some (x.dst, y.dst, lightOp x.op, lightOp y.op)
      | _, _ => none

def Eff.isBad : Eff → Bool
  | .bad => true
  | _ => false

noncomputable def sparesB (H H1 : Heap) (a : Nat) : Bool := @decide (H1[a]? = H[a]?) (Classical.propDecidable _)
noncomputable def Eff.swaps : Eff → Eff → Bool
  | .load a, .grow b => a != b
  | .grow a, .load b => a != b
  | .load _, .wild => false
  | .wild, .load _ => false
  | .load a, .ran H H1 => sparesB H H1 a
  | .ran H H1, .load a => sparesB H H1 a
  | .bad, .bad => false
  | _, _ => true

noncomputable def Log.fine (L : List (Option Tmp × Option Tmp × Bool × Bool)) (l : Log) : Bool :=
  L.all fun p => l.all fun a => (!(a.2.isBad) || ((a.1 != p.1 || p.2.2.2) && (a.1 != p.2.1 || p.2.2.1))) && l.all fun b => a.1 != p.1 || b.1 != p.2.1 || a.2.swaps b.2

def dstsOk (N : Nat) (ops : Array Oper) : Bool := ops.toList.all fun o => match o.dst with | some d => decide (d < N) | none => true

def isDefer : Op → Bool
  | .defer _ => true
  | _ => false
def plainC : Code → Bool
  | .region _ ops _ => ops.toList.all fun o => !isDefer o.op
  | .seq a b => plainC a && plainC b
  | .cond _ a b => plainC a && plainC b
  | .block _ b => plainC b
  | .loop b => plainC b
  | .scope _ => false
  | .rangeFunc .. => false
  | _ => true

def codeOk (D : Array Oper → Bool) (N : Nat) : Code → Bool
  | .region _ ops d => dstsOk N ops && (!d || D ops)
  | .seq a b => codeOk D N a && codeOk D N b
  | .cond _ a b => codeOk D N a && codeOk D N b
  | .block _ b => codeOk D N b
  | .loop b => codeOk D N b
  | .scope b => codeOk D N b
  | .rangeFunc _ ps a b => ps.toList.all (fun p => decide (p < N)) && plainC a && plainC b && codeOk D N a && codeOk D N b
  | _ => true

def fnOk (D : Array Oper → Bool) (fn : Func) : Bool :=
  match fn.body with
  | some c => codeOk D fn.ntmps c && !(fn.name == "runtime.NumGoroutine")
  | none => true



inductive X where
  | n
  | exit (id : Nat)
  | ret

abbrev Out := Option (X × Env × Heap)

def iter (f : Env → Heap → Out) : Nat → Env → Heap → Out
  | 0, _, _ => none
  | k + 1, e, H => match f e H with
    | some (.n, e', H') => iter f k e' H'
    | r => r

class Orc where
  has : FuncId → Bool
  run : FuncId → List V → Heap → Option (V × Heap)
  seq : FuncId → List V → Heap → Option (List (T × (Heap → Option Heap)) × (Heap → Option Heap)) := fun _ _ _ => none

def rounds (A B : Env → Heap → Out) (p : Tmp) (e : Env) : List (T × (Heap → Option Heap)) → Heap → Option Heap
  | [], H => some H
  | (x, m) :: r, H => match m H with
    | some H1 => match A (put e p (.t x)) H1 with
      | some (.n, e1, H2) => match B e1 H2 with
        | some (.n, _, H3) => rounds A B p e r H3
        | _ => none
      | _ => none
    | none => none

noncomputable def codeRun [Orc] (P : Program) (call : CallFn) (m : Nat) : Code → Env → Heap → Out
  | .skip, e, H => some (.n, e, H)
  | .label _, e, H => some (.n, e, H)
  | .region _ ops false, e, H => (opsRun P call ops ops.toList e H []).map fun r => (.n, r.1, r.2.1)
  | .region _ ops true, e, H => match opsRun P call ops ops.toList e H [] with
    | some (e', H', l) => if l.fine (loosePairs ops) = true then some (.n, e', H') else none
    | none => none
  | .seq a b, e, H => match codeRun P call m a e H with
    | some (.n, e', H') => codeRun P call m b e' H'
    | r => r
  | .cond c a b, e, H => match ev e c with
    | some (.t (.bool true)) => codeRun P call m a e H
    | some (.t (.bool false)) => codeRun P call m b e H
    | _ => none
  | .block id b, e, H => match codeRun P call m b e H with
    | some (.exit id', e', H') => if id' = id then some (.n, e', H') else some (.exit id', e', H')
    | r => r
  | .loop b, e, H => iter (codeRun P call m b) m e H
  | .scope b, e, H => codeRun P call m b e H
  | .exit id, e, H => some (.exit id, e, H)
  | .ret, e, H => some (.ret, e, H)
  | .rangeFunc g ps a b, e, H => match ev e g, ps.toList with
    | some (.fn f [] caps), [p] => match Orc.seq f caps H with
      | some (l, fin) => match rounds (codeRun P call m a) (codeRun P call m b) p e l H with
        | some H1 => (fin H1).map fun H2 => (.n, e, H2)
        | none => none
      | none => none
    | _, _ => none
  | _, _, _ => none

def resV (P : Program) (e : Env) (H : Heap) : ResultVar → Option V
  | .tmp t => some (e t)
  | .cell a t => (loadV H (tyOf P t) (e a)).map (·.v)

def resVs (P : Program) (e : Env) (H : Heap) : List ResultVar → Option (List V)
  | [] => some []
  | r :: rs => match resV P e H r, resVs P e H rs with
    | some v, some vs => some (v :: vs)
    | _, _ => none

def one : List V → V
  | [v] => v
  | vs => .tup vs

def enter (args : List V) : Env := fun t => (args[t]?).getD .dead

def pureV : V → Option T
  | .t x => some x
  | _ => none

def dataRun (run : List T → Option T) (args : List V) (H : Heap) : Option (V × Heap) :=
  match H with
  | [] => (args.mapM pureV).bind fun ts => (run ts).map fun x => (.t x, [])
  | _ => none

noncomputable def funRun [Orc] (P : Program) : Nat → CallFn
  | 0, _, _, _ => none
  | k + 1, f, args, H => if Orc.has f = true then Orc.run f args H else match P.funcs[f]? with
    | some fn => if fnOk drawOk fn = true then (match fn.body with
      | some c => match codeRun P (funRun P k) k c (enter args) H with
        | some (.n, e, H') => (resVs P e H' fn.results.toList).map fun vs => (one vs, H')
        | some (.ret, e, H') => (resVs P e H' fn.results.toList).map fun vs => (one vs, H')
        | _ => none
      | none => none) else none
    | none => none

end Go.Sim

namespace Go.Sim
variable [Orc]


def CallLe (c c' : CallFn) : Prop := ∀ f a H r, c f a H = some r → c' f a H = some r

omit [Orc] in
theorem heapRun_mono {c c' : CallFn} (h : CallLe c c') {f : FuncId} {a : List V} {H : Heap} {r : Res} (hr : heapRun c f a H = some r) : heapRun c' f a H = some r := by
  unfold heapRun at *
  cases hc : c f a H with
  | none => simp [hc] at hr
  | some p => rw [h _ _ _ _ hc]; simpa [hc] using hr

omit [Orc] in
theorem callRun_mono {P : Program} {c c' : CallFn} (h : CallLe c c') {f : FuncId} {a : List V} {H : Heap} {r : Res} (hr : callRun P c f a H = some r) : callRun P c' f a H = some r := by
  unfold callRun at *
  cases ha : a.mapM (toT H depth) with
  | some ts =>
    simp only [ha] at hr ⊢
    cases hc : c f (ts.map V.t) [] with
    | none => simp [hc] at hr
    | some p =>
      rw [h _ _ _ _ hc]
      obtain ⟨v, H1⟩ := p
      simp only [hc] at hr ⊢
      split at hr
      · rename_i hv; rw [if_pos hv]; exact heapRun_mono h hr
      · rename_i hv; rw [if_neg hv]; exact hr
  | none =>
    simp only [ha] at hr ⊢
    exact heapRun_mono h hr

omit [Orc] in
theorem opRunC_mono {P : Program} {c c' : CallFn} (h : CallLe c c') {op : Op} {e : Env} {H : Heap} {r : Res} (hr : opRunC P c op e H = some r) : opRunC P c' op e H = some r := by
  unfold opRunC at *
  split at hr
  · rename_i f args _
    cases h1 : ev e f with
    | none => simp [h1] at hr
    | some fv =>
      cases h2 : evs e args.toList with
      | none => cases fv <;> simp [h1, h2] at hr
      | some vs =>
        simp only [h1, h2] at hr ⊢
        split at hr
        · rename_i heq _; simp only [Option.some.injEq] at heq; subst heq; rename_i heq2; simp only [Option.some.injEq] at heq2; subst heq2; exact callRun_mono h hr
        · rename_i heq _; simp only [Option.some.injEq] at heq; subst heq; rename_i heq2; simp only [Option.some.injEq] at heq2; subst heq2; exact callRun_mono h hr
        · simp at hr
  · rename_i x name args _
    cases h1 : ev e x with
    | none => simp [h1] at hr
    | some v =>
      cases h2 : evs e args.toList with
      | none => simp [h1, h2] at hr
      | some vs =>
        simp only [h1, h2] at hr ⊢
        cases h3 : recvOf P H name v with
        | none => simp [h3] at hr
        | some p =>
          simp only [h3, Option.bind_some] at hr ⊢
          exact heapRun_mono h hr
  · exact hr

omit [Orc] in
theorem opsRun_mono {P : Program} {c c' : CallFn} (h : CallLe c c') {ops : Array Oper} : ∀ {l : List Oper} {e : Env} {H : Heap} {lg : Log} {r}, opsRun P c ops l e H lg = some r → opsRun P c' ops l e H lg = some r := by
  intro l
  induction l with
  | nil => intro e H lg r hr; exact hr
  | cons o l ih =>
    intro e H lg r hr
    unfold opsRun at hr ⊢
    cases hw : wantedV ops e o with
    | none => simp [hw] at hr
    | some b =>
      cases b with
      | false => simp only [hw] at hr ⊢; exact ih hr
      | true =>
        simp only [hw] at hr ⊢
        cases hc : opRunC P c o.op e H with
        | none => simp [hc] at hr
        | some q => rw [opRunC_mono h hc]; simp only [hc] at hr; exact ih hr

omit [Orc] in
theorem iter_mono {f g : Env → Heap → Out} (h : ∀ e H r, f e H = some r → g e H = some r) : ∀ {m m' : Nat} {e : Env} {H : Heap} {r}, m ≤ m' → iter f m e H = some r → iter g m' e H = some r := by
  intro m
  induction m with
  | zero => intro m' e H r _ hr; simp [iter] at hr
  | succ m ih =>
    intro m' e H r hm hr
    obtain ⟨m', rfl⟩ : ∃ k, m' = k + 1 := ⟨m' - 1, by omega⟩
    unfold iter at hr ⊢
    cases hc : f e H with
    | none => simp [hc] at hr
    | some q =>
      rw [h _ _ _ hc]
      obtain ⟨x, e', H'⟩ := q
      cases x with
      | n => simp only [hc] at hr ⊢; exact ih (by omega) hr
      | exit id => simpa [hc] using hr
      | ret => simpa [hc] using hr

omit [Orc] in
theorem rounds_mono {A A' B B' : Env → Heap → Out} (hA : ∀ e H r, A e H = some r → A' e H = some r) (hB : ∀ e H r, B e H = some r → B' e H = some r) {p : Tmp} {e : Env} :
    ∀ {l : List (T × (Heap → Option Heap))} {H : Heap} {r}, rounds A B p e l H = some r → rounds A' B' p e l H = some r
  | [], H, r, h => h
  | (x, m) :: l, H, r, h => by
    simp only [rounds] at h ⊢
    cases hm : m H with
    | none => simp [hm] at h
    | some H1 =>
      simp only [hm] at h ⊢
      cases ha : A (put e p (.t x)) H1 with
      | none => simp [ha] at h
      | some q =>
        obtain ⟨y, e1, H2⟩ := q
        rw [hA _ _ _ ha]
        cases y with
        | n =>
          simp only [ha] at h ⊢
          cases hb : B e1 H2 with
          | none => simp [hb] at h
          | some q =>
            obtain ⟨y, e2, H3⟩ := q
            rw [hB _ _ _ hb]
            cases y with
            | n => simp only [hb] at h ⊢; exact rounds_mono hA hB h
            | exit id => simp [hb] at h
            | ret => simp [hb] at h
        | exit id => simp [ha] at h
        | ret => simp [ha] at h
theorem codeRun_mono {P : Program} {c c' : CallFn} (h : CallLe c c') {m m' : Nat} (hm : m ≤ m') : ∀ (code : Code) {e : Env} {H : Heap} {r}, codeRun P c m code e H = some r → codeRun P c' m' code e H = some r := by
  intro code
  induction code with
  | region id ops draw =>
    intro e H r hr
    cases draw with
    | false =>
      simp only [codeRun] at hr ⊢
      cases hc : opsRun P c ops ops.toList e H [] with
      | none => simp [hc] at hr
      | some q => rw [opsRun_mono h hc]; simpa [hc] using hr
    | true =>
      simp only [codeRun] at hr ⊢
      cases hc : opsRun P c ops ops.toList e H [] with
      | none => simp [hc] at hr
      | some q => rw [opsRun_mono h hc]; simpa [hc] using hr
  | seq a b iha ihb =>
    intro e H r hr
    simp only [codeRun] at hr ⊢
    cases hc : codeRun P c m a e H with
    | none => simp [hc] at hr
    | some q =>
      rw [iha hc]
      obtain ⟨x, e', H'⟩ := q
      cases x with
      | n => simp only [hc] at hr ⊢; exact ihb hr
      | exit id => simpa [hc] using hr
      | ret => simpa [hc] using hr
  | cond t a b iha ihb =>
    intro e H r hr
    simp only [codeRun] at hr ⊢
    split at hr
    · exact iha hr
    · exact ihb hr
    · simp at hr
  | block id b ih =>
    intro e H r hr
    simp only [codeRun] at hr ⊢
    cases hc : codeRun P c m b e H with
    | none => simp [hc] at hr
    | some q =>
      rw [ih hc]
      obtain ⟨x, e', H'⟩ := q
      cases x <;> simpa [hc] using hr
  | loop b ih =>
    intro e H r hr
    simp only [codeRun] at hr ⊢
    exact iter_mono (fun e H r hr => ih hr) hm hr
  | rangeFunc g ps a b iha ihb =>
    intro e H r hr
    simp only [codeRun] at hr ⊢
    split at hr
    · split at hr
      · split at hr
        · rename_i H1 hq
          rw [rounds_mono (fun _ _ _ h => iha h) (fun _ _ _ h => ihb h) hq]
          exact hr
        · cases hr
      · cases hr
    · cases hr
  | scope b ih => intro e H r hr; simp only [codeRun] at hr ⊢; exact ih hr
  | goto => intro e H r hr; simp [codeRun] at hr
  | refuse => intro e H r hr; simp [codeRun] at hr
  | _ => intro e H r hr; simpa only [codeRun] using hr

theorem funRun_mono {P : Program} : ∀ {k k' : Nat}, k ≤ k' → CallLe (funRun P k) (funRun P k') := by
  intro k
  induction k with
  | zero => intro k' _ f a H r hr; simp [funRun] at hr
  | succ k ih =>
    intro k' hk f a H r hr
    obtain ⟨k', rfl⟩ : ∃ m, k' = m + 1 := ⟨k' - 1, by omega⟩
    unfold funRun at hr ⊢
    by_cases ho : Orc.has f = true
    · rw [if_pos ho] at hr ⊢; exact hr
    rw [if_neg ho] at hr ⊢
    cases hf : P.funcs[f]? with
    | none => simp [hf] at hr
    | some fn =>
      simp only [hf] at hr ⊢
      cases hb : fn.body with
      | none => simp [hb] at hr
      | some c =>
        simp only [hb] at hr ⊢
        cases hc : codeRun P (funRun P k) k c (enter a) H with
        | none => simp [hc] at hr
        | some q => rw [codeRun_mono (ih (by omega)) (by omega) c hc]; simpa [hc] using hr


def CW (P : Program) (c : Code) (e : Env) (H : Heap) (Q : X → Env → Heap → Prop) : Prop :=
  ∃ k x e' H', codeRun P (funRun P k) k c e H = some (x, e', H') ∧ Q x e' H'

def OW (P : Program) (ops : Array Oper) (l : List Oper) (e : Env) (H : Heap) (lg : Log) (Q : Env → Heap → Log → Prop) : Prop :=
  ∃ k e' H' l', opsRun P (funRun P k) ops l e H lg = some (e', H', l') ∧ Q e' H' l'

def PW (P : Program) (op : Op) (e : Env) (H : Heap) (K : V → Heap → Eff → Prop) : Prop :=
  ∃ k r, opRunC P (funRun P k) op e H = some r ∧ K r.v r.H r.eff

def Fun (P : Program) (f : FuncId) (ts : List T) (u : V) : Prop :=
  ∃ k v H, funRun P k f (ts.map .t) [] = some (v, H) ∧ exportB (isFresh P f) H v = some u

def FunH (P : Program) (f : FuncId) (vs : List V) (H : Heap) (v : V) (H' : Heap) : Prop :=
  ∃ k, funRun P k f vs H = some (v, H')

theorem codeRun_up {P : Program} {k k' : Nat} (h : k ≤ k') {c : Code} {e : Env} {H : Heap} {r} (hr : codeRun P (funRun P k) k c e H = some r) : codeRun P (funRun P k') k' c e H = some r :=
  codeRun_mono (funRun_mono h) h c hr

theorem Fun.det {P : Program} {f : FuncId} {ts : List T} {u u' : V} (h : Fun P f ts u) (h' : Fun P f ts u') : u = u' := by
  obtain ⟨k, v, H, h1, h2⟩ := h
  obtain ⟨k', v', H', h1', h2'⟩ := h'
  have a := funRun_mono (Nat.le_max_left k k') _ _ _ _ h1
  have b := funRun_mono (Nat.le_max_right k k') _ _ _ _ h1'
  rw [a] at b
  simp only [Option.some.injEq, Prod.mk.injEq] at b
  obtain ⟨rfl, rfl⟩ := b
  rw [h2] at h2'
  simpa using h2'

theorem Fun.ex {P : Program} {f : FuncId} {ts : List T} {u : V} (h : Fun P f ts u) (K : V → Prop) : (∃ u, Fun P f ts u ∧ K u) ↔ K u :=
  ⟨fun ⟨u', h', k⟩ => by rw [h.det h']; exact k, fun k => ⟨u, h, k⟩⟩

theorem CW.mono {P : Program} {c : Code} {e : Env} {H : Heap} {Q Q' : X → Env → Heap → Prop} (h : CW P c e H Q) (hq : ∀ x e H, Q x e H → Q' x e H) : CW P c e H Q' :=
  let ⟨k, x, e', H', h1, h2⟩ := h; ⟨k, x, e', H', h1, hq _ _ _ h2⟩

def thenX (N : Env → Heap → Prop) (Q : X → Env → Heap → Prop) : X → Env → Heap → Prop
  | .n, e, H => N e H
  | x, e, H => Q x e H

def blockX (id : Nat) (Q : X → Env → Heap → Prop) : X → Env → Heap → Prop
  | .exit id', e, H => if id' = id then Q .n e H else Q (.exit id') e H
  | x, e, H => Q x e H

omit [Orc] in
theorem thenX_n (N Q e H) : thenX N Q .n e H = N e H := rfl
omit [Orc] in
theorem thenX_exit (N Q id e H) : thenX N Q (.exit id) e H = Q (.exit id) e H := rfl
omit [Orc] in
theorem thenX_ret (N Q e H) : thenX N Q .ret e H = Q .ret e H := rfl
omit [Orc] in
theorem blockX_n (id Q e H) : blockX id Q .n e H = Q .n e H := rfl
omit [Orc] in
theorem blockX_exit (id Q id' e H) : blockX id Q (.exit id') e H = if id' = id then Q .n e H else Q (.exit id') e H := rfl
omit [Orc] in
theorem blockX_ret (id Q e H) : blockX id Q .ret e H = Q .ret e H := rfl

theorem CW_skip {P e H Q} : CW P .skip e H Q ↔ Q .n e H := by
  constructor
  · rintro ⟨k, x, e', H', h, q⟩; simp [codeRun] at h; obtain ⟨rfl, rfl, rfl⟩ := h; exact q
  · intro q; exact ⟨0, .n, e, H, by simp [codeRun], q⟩
theorem CW_label {P l e H Q} : CW P (.label l) e H Q ↔ Q .n e H := by
  constructor
  · rintro ⟨k, x, e', H', h, q⟩; simp [codeRun] at h; obtain ⟨rfl, rfl, rfl⟩ := h; exact q
  · intro q; exact ⟨0, .n, e, H, by simp [codeRun], q⟩
theorem CW_exit {P id e H Q} : CW P (.exit id) e H Q ↔ Q (.exit id) e H := by
  constructor
  · rintro ⟨k, x, e', H', h, q⟩; simp [codeRun] at h; obtain ⟨rfl, rfl, rfl⟩ := h; exact q
  · intro q; exact ⟨0, .exit id, e, H, by simp [codeRun], q⟩
theorem CW_ret {P e H Q} : CW P .ret e H Q ↔ Q .ret e H := by
  constructor
  · rintro ⟨k, x, e', H', h, q⟩; simp [codeRun] at h; obtain ⟨rfl, rfl, rfl⟩ := h; exact q
  · intro q; exact ⟨0, .ret, e, H, by simp [codeRun], q⟩

def RW (P : Program) (a b : Code) (p : Tmp) (e : Env) : List (T × (Heap → Option Heap)) → Heap → (Heap → Prop) → Prop
  | [], H, K => K H
  | (x, m) :: r, H, K => ∃ H1, m H = some H1 ∧ CW P a (put e p (.t x)) H1 fun y e1 H2 => y = .n ∧ CW P b e1 H2 fun y _ H3 => y = .n ∧ RW P a b p e r H3 K
theorem RW_run {P : Program} {a b : Code} {p : Tmp} {e : Env} : ∀ {l : List (T × (Heap → Option Heap))} {H : Heap} {K : Heap → Prop}, RW P a b p e l H K →
    ∃ k H', rounds (codeRun P (funRun P k) k a) (codeRun P (funRun P k) k b) p e l H = some H' ∧ K H'
  | [], H, K, h => ⟨0, H, rfl, h⟩
  | (x, m) :: r, H, K, h => by
    obtain ⟨H1, h1, k1, y, e1, H2, h2, rfl, k2, y, e2, H3, h3, rfl, h4⟩ := h
    obtain ⟨k3, H', h5, h6⟩ := RW_run h4
    have le1 : k1 ≤ max k1 (max k2 k3) := Nat.le_max_left _ _
    have le2 : k2 ≤ max k1 (max k2 k3) := Nat.le_trans (Nat.le_max_left _ _) (Nat.le_max_right _ _)
    have le3 : k3 ≤ max k1 (max k2 k3) := Nat.le_trans (Nat.le_max_right _ _) (Nat.le_max_right _ _)
    refine ⟨max k1 (max k2 k3), H', ?_, h6⟩
    simp only [rounds]
    rw [h1]
    simp only
    rw [codeRun_up le1 h2]
    simp only
    rw [codeRun_up le2 h3]
    exact rounds_mono (fun _ _ _ h => codeRun_up le3 h) (fun _ _ _ h => codeRun_up le3 h) h5
theorem CW_range {P : Program} {g : Operand} {p : Tmp} {a b : Code} {e : Env} {H : Heap} {Q : X → Env → Heap → Prop} {f : FuncId} {caps : List V} {l : List (T × (Heap → Option Heap))} {fin : Heap → Option Heap}
    (hg : ev e g = some (.fn f [] caps)) (hs : Orc.seq f caps H = some (l, fin)) (h : RW P a b p e l H fun H1 => ∃ H2, fin H1 = some H2 ∧ Q .n e H2) : CW P (.rangeFunc g #[p] a b) e H Q := by
  obtain ⟨k, H1, h1, H2, h2, h3⟩ := RW_run h
  refine ⟨k, .n, e, H2, ?_, h3⟩
  simp only [codeRun, hg, hs, h1, h2, Option.map_some]
theorem CW_seq {P a b e H Q} : CW P (.seq a b) e H Q ↔ CW P a e H (thenX (fun e' H' => CW P b e' H' Q) Q) := by
  constructor
  · rintro ⟨k, x, e', H', h, q⟩
    simp only [codeRun] at h
    cases hc : codeRun P (funRun P k) k a e H with
    | none => simp [hc] at h
    | some r =>
      obtain ⟨y, e1, H1⟩ := r
      refine ⟨k, y, e1, H1, hc, ?_⟩
      cases y with
      | n => simp only [hc] at h; exact ⟨k, x, e', H', h, q⟩
      | exit id => simp [hc] at h; obtain ⟨rfl, rfl, rfl⟩ := h; exact q
      | ret => simp [hc] at h; obtain ⟨rfl, rfl, rfl⟩ := h; exact q
  · rintro ⟨k, y, e1, H1, h, q⟩
    cases y with
    | n =>
      obtain ⟨k', x, e', H', h', q⟩ := q
      refine ⟨max k k', x, e', H', ?_, q⟩
      simp only [codeRun]
      rw [codeRun_up (Nat.le_max_left k k') h]
      exact codeRun_up (Nat.le_max_right k k') h'
    | exit id => exact ⟨k, _, e1, H1, by simp only [codeRun]; rw [h], q⟩
    | ret => exact ⟨k, _, e1, H1, by simp only [codeRun]; rw [h], q⟩

theorem CW_region {P id ops e H Q} : CW P (.region id ops false) e H Q ↔ OW P ops ops.toList e H [] (fun e' H' _ => Q .n e' H') := by
  constructor
  · rintro ⟨k, x, e', H', h, q⟩
    simp only [codeRun] at h
    cases hc : opsRun P (funRun P k) ops ops.toList e H [] with
    | none => simp [hc] at h
    | some r => simp [hc] at h; obtain ⟨rfl, rfl, rfl⟩ := h; exact ⟨k, _, _, _, hc, q⟩
  · rintro ⟨k, e', H', l, h, q⟩
    exact ⟨k, .n, e', H', by simp only [codeRun]; rw [h]; rfl, q⟩

theorem CW_draw {P id ops e H Q} : CW P (.region id ops true) e H Q ↔ OW P ops ops.toList e H [] (fun e' H' l => l.fine (loosePairs ops) = true ∧ Q .n e' H') := by
  constructor
  · rintro ⟨k, x, e', H', h, q⟩
    simp only [codeRun] at h
    cases hc : opsRun P (funRun P k) ops ops.toList e H [] with
    | none => simp [hc] at h
    | some r =>
      simp only [hc] at h
      by_cases hf : r.2.2.fine (loosePairs ops) = true
      · rw [if_pos hf] at h; simp at h; obtain ⟨rfl, rfl, rfl⟩ := h; exact ⟨k, _, _, _, hc, hf, q⟩
      · rw [if_neg hf] at h; simp at h
  · rintro ⟨k, e', H', l, h, hf, q⟩
    exact ⟨k, .n, e', H', by simp only [codeRun]; rw [h]; simp [hf], q⟩

theorem CW_cond {P c a b e H Q} : CW P (.cond c a b) e H Q ↔ ∃ t, ev e c = some (.t (.bool t)) ∧ (if t = true then CW P a e H Q else CW P b e H Q) := by
  constructor
  · rintro ⟨k, x, e', H', h, q⟩
    simp only [codeRun] at h
    split at h
    · rename_i heq; exact ⟨true, heq, by simpa using ⟨k, x, e', H', h, q⟩⟩
    · rename_i heq; exact ⟨false, heq, by simpa using ⟨k, x, e', H', h, q⟩⟩
    · simp at h
  · rintro ⟨t, ht, h⟩
    cases t with
    | true => simp only [if_true] at h; obtain ⟨k, x, e', H', h, q⟩ := h; exact ⟨k, x, e', H', by simp only [codeRun]; rw [ht]; exact h, q⟩
    | false => simp only [Bool.false_eq_true, if_false] at h; obtain ⟨k, x, e', H', h, q⟩ := h; exact ⟨k, x, e', H', by simp only [codeRun]; rw [ht]; exact h, q⟩

theorem CW_scope {P b e H Q} : CW P (.scope b) e H Q ↔ CW P b e H Q := by
  unfold CW; simp only [codeRun]

theorem CW_block {P id b e H Q} : CW P (.block id b) e H Q ↔ CW P b e H (blockX id Q) := by
  constructor
  · rintro ⟨k, x, e', H', h, q⟩
    simp only [codeRun] at h
    cases hc : codeRun P (funRun P k) k b e H with
    | none => simp [hc] at h
    | some r =>
      obtain ⟨y, e1, H1⟩ := r
      refine ⟨k, y, e1, H1, hc, ?_⟩
      cases y with
      | n => simp [hc] at h; obtain ⟨rfl, rfl, rfl⟩ := h; exact q
      | exit i =>
        simp only [hc] at h
        by_cases hi : i = id
        · rw [if_pos hi] at h; simp at h; obtain ⟨rfl, rfl, rfl⟩ := h; simp only [blockX, if_pos hi]; exact q
        · rw [if_neg hi] at h; simp at h; obtain ⟨rfl, rfl, rfl⟩ := h; simp only [blockX, if_neg hi]; exact q
      | ret => simp [hc] at h; obtain ⟨rfl, rfl, rfl⟩ := h; exact q
  · rintro ⟨k, y, e1, H1, h, q⟩
    cases y with
    | n => exact ⟨k, .n, e1, H1, by simp only [codeRun]; rw [h], q⟩
    | exit i =>
      by_cases hi : i = id
      · simp only [blockX, if_pos hi] at q; exact ⟨k, .n, e1, H1, by simp only [codeRun]; rw [h]; simp [hi], q⟩
      · simp only [blockX, if_neg hi] at q; exact ⟨k, .exit i, e1, H1, by simp only [codeRun]; rw [h]; simp [hi], q⟩
    | ret => exact ⟨k, .ret, e1, H1, by simp only [codeRun]; rw [h], q⟩

theorem CW_loop {P b e H Q} : CW P (.loop b) e H Q ↔ CW P b e H (thenX (fun e' H' => CW P (.loop b) e' H' Q) Q) := by
  constructor
  · rintro ⟨k, x, e', H', h, q⟩
    simp only [codeRun] at h
    cases k with
    | zero => simp [iter] at h
    | succ k =>
      simp only [iter] at h
      cases hc : codeRun P (funRun P (k + 1)) (k + 1) b e H with
      | none => simp [hc] at h
      | some r =>
        obtain ⟨y, e1, H1⟩ := r
        refine ⟨k + 1, y, e1, H1, hc, ?_⟩
        cases y with
        | n => simp only [hc] at h; exact ⟨k + 1, x, e', H', by simp only [codeRun]; exact iter_mono (fun _ _ _ h => h) (Nat.le_succ k) h, q⟩
        | exit id => simp [hc] at h; obtain ⟨rfl, rfl, rfl⟩ := h; exact q
        | ret => simp [hc] at h; obtain ⟨rfl, rfl, rfl⟩ := h; exact q
  · rintro ⟨k, y, e1, H1, h, q⟩
    cases y with
    | n =>
      obtain ⟨k', x, e', H', h', q⟩ := q
      refine ⟨max k k' + 1, x, e', H', ?_, q⟩
      simp only [codeRun] at h' ⊢
      simp only [iter]
      rw [codeRun_up (Nat.le_succ_of_le (Nat.le_max_left k k')) h]
      exact iter_mono (fun e H r hr => codeRun_up (Nat.le_succ_of_le (Nat.le_max_right k k')) hr) (Nat.le_max_right k k') h'
    | exit id => exact ⟨k + 1, _, e1, H1, by simp only [codeRun, iter]; rw [codeRun_up (Nat.le_succ k) h], q⟩
    | ret => exact ⟨k + 1, _, e1, H1, by simp only [codeRun, iter]; rw [codeRun_up (Nat.le_succ k) h], q⟩

theorem OW_nil {P ops e H l Q} : OW P ops [] e H l Q ↔ Q e H l := by
  constructor
  · rintro ⟨k, e', H', l', h, q⟩; simp [opsRun] at h; obtain ⟨rfl, rfl, rfl⟩ := h; exact q
  · intro q; exact ⟨0, e, H, l, by simp [opsRun], q⟩

theorem OW_cons {P ops o r e H l Q} : OW P ops (o :: r) e H l Q ↔
    ∃ w, wantedV ops e o = some w ∧ (if w = true then PW P o.op e H (fun v H' f => OW P ops r (putO e o.dst v) H' (l.add o.dst f) Q) else OW P ops r (putO e o.dst .dead) H l Q) := by
  constructor
  · rintro ⟨k, e', H', l', h, q⟩
    unfold opsRun at h
    cases hw : wantedV ops e o with
    | none => simp [hw] at h
    | some w =>
      refine ⟨w, rfl, ?_⟩
      cases w with
      | false => simp only [hw] at h; simp only [Bool.false_eq_true, if_false]; exact ⟨k, e', H', l', h, q⟩
      | true =>
        simp only [hw] at h; simp only [if_true]
        cases hc : opRunC P (funRun P k) o.op e H with
        | none => simp [hc] at h
        | some p => simp only [hc] at h; exact ⟨k, p, hc, k, e', H', l', h, q⟩
  · rintro ⟨w, hw, h⟩
    cases w with
    | false =>
      simp only [Bool.false_eq_true, if_false] at h
      obtain ⟨k, e', H', l', h, q⟩ := h
      exact ⟨k, e', H', l', by unfold opsRun; rw [hw]; exact h, q⟩
    | true =>
      simp only [if_true] at h
      obtain ⟨k, p, hc, k', e', H', l', h, q⟩ := h
      refine ⟨max k k', e', H', l', ?_, q⟩
      unfold opsRun
      rw [hw, opRunC_mono (funRun_mono (Nat.le_max_left k k')) hc]
      exact opsRun_mono (funRun_mono (Nat.le_max_right k k')) h

theorem PW_op {P op e H K} (h : ∀ call, opRunC P call op e H = opRun P op e H) : PW P op e H K ↔ ∃ r, opRun P op e H = some r ∧ K r.v r.H r.eff := by
  constructor
  · rintro ⟨k, r, hr, q⟩; rw [h] at hr; exact ⟨r, hr, q⟩
  · rintro ⟨r, hr, q⟩; exact ⟨0, r, by rw [h]; exact hr, q⟩

omit [Orc] in
theorem ret_ex {v : V} {H : Heap} {K : V → Heap → Eff → Prop} : (∃ r, ret v H = some r ∧ K r.v r.H r.eff) ↔ K v H .none := by
  simp [ret]

omit [Orc] in
theorem bind_ret {x : Option V} {H : Heap} {K : V → Heap → Eff → Prop} : (∃ r, x.bind (ret · H) = some r ∧ K r.v r.H r.eff) ↔ ∃ v, x = some v ∧ K v H .none := by
  cases x <;> simp [ret]

theorem PW_move {P x e H K} : PW P (.move x) e H K ↔ ∃ v, ev e x = some v ∧ K v H .none := by
  rw [PW_op (fun _ => rfl)]; exact bind_ret
theorem PW_assign {P x e H K} : PW P (.assign x) e H K ↔ ∃ v, ev e x = some v ∧ K v H .none := by
  rw [PW_op (fun _ => rfl)]; exact bind_ret
theorem PW_pick {P c a b e H K} : PW P (.pick c a b) e H K ↔ ∃ t, ev e c = some (.t (.bool t)) ∧ (if t = true then ∃ v, ev e a = some v ∧ K v H .none else ∃ v, ev e b = some v ∧ K v H .none) := by
  rw [PW_op (fun _ => rfl)]
  unfold opRun
  constructor
  · rintro ⟨r, hr, k⟩
    dsimp only at hr
    split at hr
    · rename_i h; exact ⟨true, h, by simp only [if_true]; exact bind_ret.1 ⟨r, hr, k⟩⟩
    · rename_i h; exact ⟨false, h, by simp only [Bool.false_eq_true, if_false]; exact bind_ret.1 ⟨r, hr, k⟩⟩
    · simp at hr
  · rintro ⟨t, ht, h⟩
    dsimp only
    rw [ht]
    cases t with
    | true => simp only [if_true] at h; exact bind_ret.2 h
    | false => simp only [Bool.false_eq_true, if_false] at h; exact bind_ret.2 h
theorem PW_load {P t x e H K} : PW P (.load t x) e H K ↔ ∃ v, ev e x = some v ∧ ∃ r, loadV H (tyOf P t) v = some r ∧ K r.v r.H r.eff := by
  rw [PW_op (fun _ => rfl)]
  unfold opRun
  dsimp only
  cases ev e x <;> simp
theorem PW_store {P t x y e H K} : PW P (.store t x y) e H K ↔ ∃ v, ev e x = some v ∧ ∃ u, ev e y = some u ∧ ∃ r, storeV H (tyOf P t) v u = some r ∧ K r.v r.H r.eff := by
  rw [PW_op (fun _ => rfl)]
  unfold opRun
  dsimp only
  cases ev e x <;> cases ev e y <;> simp
theorem PW_field {P s x f e H K} : PW P (.field s x f) e H K ↔ ∃ v, ev e x = some v ∧ ∃ u, fieldC (fld1 P s f) v = some u ∧ K u H .none := by
  rw [PW_op (fun _ => rfl)]
  unfold opRun
  dsimp only
  cases ev e x <;> simp [bind_ret]
theorem PW_fieldAddr {P s x f e H K} : PW P (.fieldAddr s x f) e H K ↔ ∃ v, ev e x = some v ∧ ∃ u, fieldV (fldOf P s f) v = some u ∧ K u H .none := by
  rw [PW_op (fun _ => rfl)]
  unfold opRun
  dsimp only
  cases ev e x <;> simp [bind_ret]
theorem PW_indexAddr {P t x i e H K} : PW P (.indexAddr t x i) e H K ↔ ∃ v, ev e x = some v ∧ ∃ n, (ev e i).bind asInt = some n ∧ ∃ u, indexV H (kdOf P t) (elemSz P (kdOf P t)) v n = some u ∧ K u H (effP u) := by
  rw [PW_op (fun _ => rfl)]
  unfold opRun
  dsimp only
  cases ev e x with
  | none => simp
  | some v =>
    cases (ev e i).bind asInt with
    | none => simp
    | some n => 
      cases hq : indexV H (kdOf P t) (elemSz P (kdOf P t)) v n <;> simp [hq]
theorem PW_binOp {P op t x y s e H K} : PW P (.binOp op t x y s) e H K ↔ ∃ a, ev e x = some a ∧ ∃ b, ev e y = some b ∧ ∃ c, binV P op t a b = some c ∧ K (.t c) H .none := by
  rw [PW_op (fun _ => rfl)]
  unfold opRun
  dsimp only
  constructor
  · rintro ⟨r, hr, k⟩
    split at hr
    · rename_i a b h1 h2
      cases hc : binV P op t a b with
      | none => simp [hc] at hr
      | some c => simp [hc, ret] at hr; subst hr; exact ⟨a, h1, b, h2, c, hc, k⟩
    · simp at hr
  · rintro ⟨a, h1, b, h2, c, h3, k⟩
    rw [h1, h2]
    simp only [h3]
    exact ⟨_, rfl, k⟩
theorem PW_unOp {P op t x e H K} : PW P (.unOp op t x) e H K ↔ ∃ a, ev e x = some (.t a) ∧ ∃ c, unT op a = some c ∧ K (.t c) H .none := by
  rw [PW_op (fun _ => rfl)]
  unfold opRun
  dsimp only
  constructor
  · rintro ⟨r, hr, k⟩
    split at hr
    · rename_i a h1
      cases hc : unT op a with
      | none => simp [hc] at hr
      | some c => simp [hc, ret] at hr; subst hr; exact ⟨a, h1, c, hc, k⟩
    · simp at hr
  · rintro ⟨a, h1, c, h3, k⟩
    rw [h1]
    simp only [h3]
    exact ⟨_, rfl, k⟩
theorem PW_convert {P s d x e H K} : PW P (.convert s d x) e H K ↔ ∃ r, opRun P (.convert s d x) e H = some r ∧ K r.v r.H r.eff := PW_op (fun _ => rfl)
theorem PW_box {P t x e H K} : PW P (.box t x) e H K ↔ ∃ v, ev e x = some v ∧ v.storable = true ∧ K (.ptr H.length 1 0 0) (H ++ [⟨[v], v.cells.length, false⟩]) .none := by
  rw [PW_op (fun _ => rfl)]
  unfold opRun
  dsimp only
  cases ev e x with
  | none => simp
  | some v =>
    by_cases h : v.storable = true
    · simp [h]
    · simp [h]
theorem PW_len {P args at_ e H K} : PW P (.call { callee := .builtin .len, args := args, argTypes := at_ }) e H K ↔ ∃ r, opRun P (.call { callee := .builtin .len, args := args, argTypes := at_ }) e H = some r ∧ K r.v r.H r.eff := PW_op (fun _ => rfl)

def CaW (P : Program) (f : FuncId) (vs : List V) (H : Heap) (K : V → Heap → Eff → Prop) : Prop :=
  ∃ k r, callRun P (funRun P k) f vs H = some r ∧ K r.v r.H r.eff

def fnArgs (v : V) (vs : List V) : Option (FuncId × List V) :=
  match v with
  | .t (.fn f) => some (f, vs)
  | .fn f a b => some (f, a ++ vs ++ b)
  | _ => none

theorem PW_call {P f args at_ e H K} : PW P (.call { callee := .value f, args := args, argTypes := at_ }) e H K ↔
    ∃ v, ev e f = some v ∧ ∃ vs, evs e args.toList = some vs ∧ ∃ p, fnArgs v vs = some p ∧ CaW P p.1 p.2 H K := by
  unfold PW opRunC
  constructor
  · rintro ⟨k, r, hr, q⟩
    dsimp only at hr
    split at hr
    · rename_i f' vs h1 h2; exact ⟨_, h1, _, h2, _, rfl, k, r, hr, q⟩
    · rename_i f' a b vs h1 h2; exact ⟨_, h1, _, h2, _, rfl, k, r, hr, q⟩
    · simp at hr
  · rintro ⟨v, h1, vs, h2, p, h3, k, r, hr, q⟩
    refine ⟨k, r, ?_, q⟩
    dsimp only
    rw [h1, h2]
    cases v <;> simp [fnArgs] at h3
    · rename_i x; cases x <;> simp at h3; subst h3; exact hr
    · subst h3; dsimp only at hr ⊢; rw [List.append_assoc]; exact hr

theorem PW_invoke {P x name args at_ e H K} : PW P (.call { callee := .invoke x name, args := args, argTypes := at_ }) e H K ↔
    ∃ v, ev e x = some v ∧ ∃ vs, evs e args.toList = some vs ∧ ∃ p, recvOf P H name v = some p ∧ ∃ k r, heapRun (funRun P k) p.1 (p.2 :: vs) H = some r ∧ K r.v r.H r.eff := by
  unfold PW opRunC
  constructor
  · rintro ⟨k, r, hr, q⟩
    dsimp only at hr
    split at hr
    · rename_i v vs h1 h2
      rw [Option.bind_eq_some_iff] at hr
      obtain ⟨p, h3, h4⟩ := hr
      exact ⟨v, h1, vs, h2, p, h3, k, r, h4, q⟩
    · simp at hr
  · rintro ⟨v, h1, vs, h2, p, h3, k, r, hr, q⟩
    refine ⟨k, r, ?_, q⟩
    dsimp only
    rw [h1, h2]
    simp only [h3, Option.bind_some]
    exact hr

def Dead (P : Program) (f : FuncId) (ts : List T) : Prop := ∃ k v H1, funRun P k f (ts.map .t) [] = some (v, H1) ∧ v.inHeap = true
def HeapGo (P : Program) (f : FuncId) (vs : List V) (H : Heap) (K : V → Heap → Eff → Prop) : Prop := ∃ k r, heapRun (funRun P k) f vs H = some r ∧ K r.v r.H r.eff

omit [Orc] in
theorem dead_exp {b : Bool} {H : Heap} {v u : V} (h : exportB b H v = some u) : v.isDead = false := by
  cases v <;> first
    | rfl
    | (cases b <;> simp [exportB, exportD, exportV, toT] at h)

omit [Orc] in
theorem fn_exp {b : Bool} {H : Heap} {v u : V} (h : exportB b H v = some u) : v.inHeap = false := by
  cases v <;> first
    | rfl
    | (cases b <;> simp [exportB, exportD, exportV, toT] at h)

theorem CaW_pure {P f vs H K ts} (h : vs.mapM (toT H depth) = some ts) :
    CaW P f vs H K ↔ (∃ u, Fun P f ts u ∧ K (importV (if noSl u then H else vs.foldl (hold depth) H) u).1 (importV (if noSl u then H else vs.foldl (hold depth) H) u).2 .none) ∨ (Dead P f ts ∧ HeapGo P f vs H K) := by
  unfold CaW Fun callRun
  constructor
  · rintro ⟨k, r, hr, q⟩
    simp only [h] at hr
    cases hc : funRun P k f (ts.map V.t) [] with
    | none => simp [hc] at hr
    | some p =>
      obtain ⟨v, H1⟩ := p
      simp only [hc] at hr
      split at hr
      · rename_i hv; exact .inr ⟨⟨k, v, H1, hc, hv⟩, k, r, hr, q⟩
      cases hx : exportB (isFresh P f) H1 v with
      | none => simp [hx] at hr
      | some u => simp only [hx, Option.some.injEq] at hr; subst hr; exact .inl ⟨u, ⟨k, v, H1, hc, hx⟩, q⟩
  · rintro (⟨u, ⟨k, v, H1, hc, hx⟩, q⟩ | ⟨⟨k, v, H1, hc, hv⟩, k', r, hr, q⟩)
    · exact ⟨k, ⟨(importV (if noSl u then H else vs.foldl (hold depth) H) u).1, (importV (if noSl u then H else vs.foldl (hold depth) H) u).2, .none⟩, by simp only [h, hc, hx, fn_exp hx, Bool.false_eq_true, if_false], q⟩
    · refine ⟨max k k', r, ?_, q⟩
      simp only [h, funRun_mono (Nat.le_max_left k k') _ _ _ _ hc, hv, if_true]
      exact heapRun_mono (funRun_mono (Nat.le_max_right k k')) hr

theorem Fun.intro {P : Program} {f : FuncId} {fn : Func} {c : Code} {ts : List T} {u : V} (hf : P.funcs[f]? = some fn) (hb : fn.body = some c) (hk : fnOk drawOk fn = true)
    (h : CW P c (enter (ts.map .t)) [] (fun x e H => (match x with | .exit _ => False | _ => True) ∧ ∃ vs, resVs P e H fn.results.toList = some vs ∧ exportB (isFresh P f) H (one vs) = some u)) (ho : Orc.has f = false := by rfl) : Fun P f ts u := by
  obtain ⟨k, x, e, H, h1, hx, vs, h2, h3⟩ := h
  refine ⟨k + 1, one vs, H, ?_, h3⟩
  simp only [funRun, ho, Bool.false_eq_true, if_false, hf, hb, hk, if_true, h1]
  cases x with
  | n => simp [h2]
  | exit id => exact hx.elim
  | ret => simp [h2]

end Go.Sim
