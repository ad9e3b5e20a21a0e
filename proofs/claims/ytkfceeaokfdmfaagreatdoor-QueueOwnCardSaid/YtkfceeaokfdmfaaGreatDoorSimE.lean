/- A part of the proof of a law of module cupola: SimE, SimL, SimU. It has no conditions of its own. -/
import Derived.Test.YtkfceeaokfdmfaaGreatDoorSimDef
import Derived.Attr
set_option linter.all false
namespace Go.Sim
variable [Orc]

class Kx where
  k : X → Env → Heap → Prop
class Ko where
  k : Env → Heap → Log → Prop
class Kv where
  k : V → Heap → Eff → Prop
class Ka (α : Type) where
  k : α → Prop
class Kp where
  k : V → Prop
  q : Prop
class Cd where
  c : Code
class Ops where
  ops : Array Oper
  l : List Oper
class Op1 where
  op : Op
class Pq where
  p : Prop
  q : Prop

def C (P : Program) [c : Cd] (e : Env) (H : Heap) [Q : Kx] : Prop := CW P c.c e H Q.k
def O (P : Program) [o : Ops] (e : Env) (H : Heap) (lg : Log) [Q : Ko] : Prop := OW P o.ops o.l e H lg Q.k
def W (P : Program) [o : Op1] (e : Env) (H : Heap) [K : Kv] : Prop := PW P o.op e H K.k
def F (P : Program) (f : FuncId) (vs : List V) (H : Heap) [K : Kv] : Prop := CaW P f vs H K.k
def bnd {α : Type} (x : Option α) [K : Ka α] : Prop := ∃ a, x = some a ∧ K.k a
def sel (b : Bool) [P : Pq] : Prop := if b = true then P.p else P.q

omit [Orc] in
@[go_sem] theorem bnd_some {α : Type} {a : α} {K : Ka α} : @bnd α (some a) K = K.k a := by simp [bnd]
omit [Orc] in
@[go_sem] theorem bnd_none {α : Type} {K : Ka α} : @bnd α none K = False := by simp [bnd]
omit [Orc] in
theorem bnd_bind {α β : Type} {x : Option α} {f : α → Option β} {K : Ka β} : @bnd β (x.bind f) K = @bnd α x ⟨fun a => @bnd β (f a) K⟩ := by
  cases x <;> simp [bnd]
omit [Orc] in
@[go_sem] theorem sel_true {K : Pq} : @sel true K = K.p := by simp [sel]
omit [Orc] in
@[go_sem] theorem sel_false {K : Pq} : @sel false K = K.q := by simp [sel]
omit [Orc] in
theorem sel_pos {b : Bool} {K : Pq} (h : b = true) : @sel b K = K.p := by simp [sel, h]
omit [Orc] in
theorem sel_neg {b : Bool} {K : Pq} (h : b = false) : @sel b K = K.q := by simp [sel, h]

noncomputable def Fine (ops : Array Oper) (lg : Log) : Bool := lg.fine (loosePairs ops)
def Eff.plain : Eff → Bool
  | .none | .load _ => true
  | _ => false
def plain (l : Log) : Bool := l.all fun a => a.2.plain
omit [Orc] in
theorem fine_plain {L : List (Option Tmp × Option Tmp × Bool × Bool)} {l : Log} (h : plain l = true) : l.fine L = true := by
  simp only [plain, List.all_eq_true] at h
  simp only [Log.fine, List.all_eq_true, Bool.and_eq_true]
  intro p _ a ha
  have h1 := h a ha
  refine ⟨?_, fun b hb => ?_⟩
  · revert h1; cases a.2 <;> simp [Eff.plain, Eff.isBad]
  · have h2 := h b hb
    revert h1 h2; cases a.2 <;> cases b.2 <;> simp [Eff.plain, Eff.swaps]
omit [Orc] in
theorem sel_ok {b : Bool} {K : Pq} (h : b = true) (k : K.p) : @sel b K := by rw [sel_pos h]; exact k
omit [Orc] in
@[go_sem ↓] theorem sel_fine {ops : Array Oper} {lg : Log} {K : Pq} (h : plain lg = true) : @sel (Fine ops lg) K = K.p := sel_pos (fine_plain h)
def FineP (ops : Array Oper) (lg : Log) : Prop := Fine ops lg = true
omit [Orc] in
theorem fineP_go {ops : Array Oper} {lg : Log} (h : Fine ops lg = true) : FineP ops lg := h
omit [Orc] in
theorem sel_fineP {ops : Array Oper} {lg : Log} {K : Pq} (h : FineP ops lg) : @sel (Fine ops lg) K = K.p := sel_pos h
omit [Orc] in
@[go_sem] theorem plain_nil : plain [] = true := rfl
omit [Orc] in
@[go_sem] theorem plain_none (l : Log) (d) : plain (l.add d .none) = plain l := rfl
omit [Orc] in
@[go_sem] theorem plain_load (l : Log) (d i) : plain (l.add d (.load i)) = plain l := by simp [plain, Log.add, Eff.plain]

def boolOf : V → Option Bool
  | .t (.bool b) => some b
  | _ => none
def tOf : V → Option T
  | .t x => some x
  | _ => none
omit [Orc] in
theorem tOf_some {v : V} {a : T} : tOf v = some a ↔ v = .t a := by
  cases v <;> simp [tOf]

omit [Orc] in
theorem boolOf_ev {e : Env} {c : Operand} {t : Bool} : (ev e c).bind boolOf = some t ↔ ev e c = some (.t (.bool t)) := by
  cases hc : ev e c with
  | none => simp
  | some v =>
    simp only [Option.bind_some, Option.some.injEq]
    unfold boolOf
    split
    · simp
    · rename_i h; simp only [reduceCtorEq, false_iff]; intro e; exact h t e

def dstAt : List Oper → Nat → Option Tmp
  | [], _ => none
  | o :: _, 0 => o.dst
  | _ :: r, j + 1 => dstAt r j
omit [Orc] in
theorem dstAt_eq : ∀ (l : List Oper) (j : Nat), dstAt l j = (l[j]?).bind (·.dst)
  | [], _ => by simp [dstAt]
  | o :: _, 0 => by simp [dstAt]
  | _ :: r, j + 1 => by simp [dstAt, dstAt_eq r j]
def yof : V → Option (Option Bool)
  | .t (.bool b) => some (some b)
  | .dead => some none
  | _ => none
def Y [o : Ops] (e : Env) (j : Nat) : Option (Option Bool) := (dstAt o.ops.toList j).bind fun t => yof (e t)
omit [Orc] in
theorem Y_eq {o : Ops} {e : Env} {j : Nat} : @Y o e j = yieldV o.ops e j := by
  unfold Y yieldV
  rw [dstAt_eq, Array.getElem?_toList]
  cases (o.ops[j]?).bind (·.dst) with
  | none => rfl
  | some t => simp only [Option.bind_some]; unfold yof; rfl

@[go_sem ↓] theorem e_seq {P a b e H Q} : @C _ P ⟨.seq a b⟩ e H Q = @C _ P ⟨a⟩ e H ⟨thenX (fun e' H' => @C _ P ⟨b⟩ e' H' Q) Q.k⟩ := propext CW_seq
@[go_sem ↓] theorem e_skip {P e H Q} : @C _ P ⟨.skip⟩ e H Q = Q.k .n e H := propext CW_skip
@[go_sem ↓] theorem e_exit {P id e H Q} : @C _ P ⟨.exit id⟩ e H Q = Q.k (.exit id) e H := propext CW_exit
@[go_sem ↓] theorem e_ret {P e H Q} : @C _ P ⟨.ret⟩ e H Q = Q.k .ret e H := propext CW_ret
@[go_sem ↓] theorem e_scope {P b e H Q} : @C _ P ⟨.scope b⟩ e H Q = @C _ P ⟨b⟩ e H Q := propext CW_scope
@[go_sem ↓] theorem e_label {P l e H Q} : @C _ P ⟨.label l⟩ e H Q = Q.k .n e H := by
  apply propext
  constructor
  · rintro ⟨k, x, e', H', h, q⟩
    simp only [codeRun, Option.some.injEq, Prod.mk.injEq] at h
    obtain ⟨rfl, rfl, rfl⟩ := h; exact q
  · intro q; exact ⟨0, .n, e, H, rfl, q⟩
@[go_sem ↓] theorem e_block {P id b e H Q} : @C _ P ⟨.block id b⟩ e H Q = @C _ P ⟨b⟩ e H ⟨blockX id Q.k⟩ := propext CW_block
@[go_sem ↓] theorem e_region {P id l e H Q} : @C _ P ⟨.region id (List.toArray l) false⟩ e H Q = @O _ P ⟨l.toArray, l⟩ e H [] ⟨fun e' H' _ => Q.k .n e' H'⟩ := propext CW_region
@[go_sem ↓] theorem e_draw {P id l e H Q} : @C _ P ⟨.region id (List.toArray l) true⟩ e H Q = @O _ P ⟨l.toArray, l⟩ e H [] ⟨fun e' H' lg => @sel (Fine l.toArray lg) ⟨Q.k .n e' H', False⟩⟩ := by
  apply propext
  refine CW_draw.trans ?_
  have : (fun (e' : Env) (H' : Heap) (lg : Log) => lg.fine (loosePairs l.toArray) = true ∧ Q.k .n e' H') = (fun e' H' lg => @sel (Fine l.toArray lg) ⟨Q.k .n e' H', False⟩) := by
    funext e' H' lg; unfold Fine; cases h : lg.fine (loosePairs l.toArray) <;> simp [sel]
  rw [this]; rfl
@[go_sem ↓] theorem e_cond {P c a b e H Q} : @C _ P ⟨.cond c a b⟩ e H Q = @bnd Bool ((ev e c).bind boolOf) ⟨fun t => @sel t ⟨@C _ P ⟨a⟩ e H Q, @C _ P ⟨b⟩ e H Q⟩⟩ := by
  apply propext
  refine CW_cond.trans ?_
  unfold bnd
  simp only [boolOf_ev]
  rfl
@[go_sem ↓] theorem e_nil {P ops e H l Q} : @O _ P ⟨ops, []⟩ e H l Q = Q.k e H l := propext OW_nil
@[go_sem ↓] theorem e_op {P ops d op ty pos af r e H l Q} : @O _ P ⟨ops, ⟨some d, op, ty, pos, af, none⟩ :: r⟩ e H l Q = @W _ P ⟨op⟩ e H ⟨fun v H' f => @O _ P ⟨ops, r⟩ (put e d v) H' (l.add (some d) f) Q⟩ := by
  apply propext; refine OW_cons.trans ?_; simp [wantedV]; rfl
@[go_sem ↓] theorem e_op0 {P ops op ty pos af r e H l Q} : @O _ P ⟨ops, ⟨none, op, ty, pos, af, none⟩ :: r⟩ e H l Q = @W _ P ⟨op⟩ e H ⟨fun _ H' f => @O _ P ⟨ops, r⟩ e H' (l.add none f) Q⟩ := by
  apply propext; refine OW_cons.trans ?_; simp [wantedV]; rfl
@[go_sem ↓] theorem e_guard {P ops d op ty pos af j w r e H l Q} : @O _ P ⟨ops, ⟨some d, op, ty, pos, af, some (j, w)⟩ :: r⟩ e H l Q =
    @bnd (Option Bool) (@Y ⟨ops, r⟩ e j) ⟨fun y => @sel (y == some w) ⟨@W _ P ⟨op⟩ e H ⟨fun v H' f => @O _ P ⟨ops, r⟩ (put e d v) H' (l.add (some d) f) Q⟩, @O _ P ⟨ops, r⟩ (put e d .dead) H l Q⟩⟩ := by
  apply propext; refine OW_cons.trans ?_
  rw [Y_eq]
  simp only [wantedV]
  cases yieldV ops e j with
  | none => simp [bnd]
  | some y => simp only [bnd, sel, Option.map_some, Option.some.injEq, exists_eq_left']; rfl

@[go_sem ↓] theorem e_move {P x e H K} : @W _ P ⟨.move x⟩ e H K = @bnd V (ev e x) ⟨fun v => K.k v H .none⟩ := propext PW_move
@[go_sem ↓] theorem e_assign {P x e H K} : @W _ P ⟨.assign x⟩ e H K = @bnd V (ev e x) ⟨fun v => K.k v H .none⟩ := propext PW_assign
@[go_sem ↓] theorem e_pick {P c a b e H K} : @W _ P ⟨.pick c a b⟩ e H K = @bnd Bool ((ev e c).bind boolOf) ⟨fun t => @sel t ⟨@bnd V (ev e a) ⟨fun v => K.k v H .none⟩, @bnd V (ev e b) ⟨fun v => K.k v H .none⟩⟩⟩ := by
  apply propext
  refine PW_pick.trans ?_
  unfold bnd
  simp only [boolOf_ev]
  rfl
@[go_sem ↓] theorem e_load {P t x e H K} : @W _ P ⟨.load t x⟩ e H K = @bnd Res ((ev e x).bind (loadV H (tyOf P t))) ⟨fun r => K.k r.v r.H r.eff⟩ := by
  apply propext; refine PW_load.trans ?_; rw [bnd_bind]; rfl
@[go_sem ↓] theorem e_store {P t x y e H K} : @W _ P ⟨.store t x y⟩ e H K = @bnd Res ((ev e x).bind fun v => (ev e y).bind fun u => storeV H (tyOf P t) v u) ⟨fun r => K.k r.v r.H r.eff⟩ := by
  apply propext; refine PW_store.trans ?_
  unfold bnd
  simp only [Option.bind_eq_some_iff]
  constructor
  · rintro ⟨v, h1, u, h2, r, h3, k⟩; exact ⟨r, ⟨v, h1, u, h2, h3⟩, k⟩
  · rintro ⟨r, ⟨v, h1, u, h2, h3⟩, k⟩; exact ⟨v, h1, u, h2, r, h3, k⟩
@[go_sem ↓] theorem e_field {P s x f e H K} : @W _ P ⟨.field s x f⟩ e H K = @bnd V ((ev e x).bind fun v => fieldC (fld1 P s f) v) ⟨fun v => K.k v H .none⟩ := by
  apply propext; refine PW_field.trans ?_; rw [bnd_bind]; rfl
@[go_sem] theorem fieldC_t {off : Nat} {cs : List T} : fieldC (some off) (.t (.agg cs)) = (cs[off]?).map .t := by
  show ((cs.map V.t)[off]?) = _
  rw [List.getElem?_map]
@[go_sem] theorem fieldC_v {off : Nat} {cs : List V} : fieldC (some off) (.agg cs) = cs[off]? := rfl
@[go_sem ↓] theorem e_fieldAddr {P s x f e H K} : @W _ P ⟨.fieldAddr s x f⟩ e H K = @bnd V ((ev e x).bind fun v => fieldV (fldOf P s f) v) ⟨fun v => K.k v H .none⟩ := by
  apply propext; refine PW_fieldAddr.trans ?_; rw [bnd_bind]; rfl
@[go_sem ↓] theorem e_indexAddr {P t x i e H K} : @W _ P ⟨.indexAddr t x i⟩ e H K = @bnd V ((ev e x).bind fun v => ((ev e i).bind asInt).bind fun n => indexV H (kdOf P t) (elemSz P (kdOf P t)) v n) ⟨fun v => K.k v H (effP v)⟩ := by
  apply propext; refine PW_indexAddr.trans ?_
  unfold bnd
  simp only [Option.bind_eq_some_iff]
  constructor
  · rintro ⟨v, h1, n, ⟨i', h2, h2'⟩, u, h3, k⟩; exact ⟨u, ⟨v, h1, n, ⟨i', h2, h2'⟩, h3⟩, k⟩
  · rintro ⟨u, ⟨v, h1, n, ⟨i', h2, h2'⟩, h3⟩, k⟩; exact ⟨v, h1, n, ⟨i', h2, h2'⟩, u, h3, k⟩
@[go_sem ↓] theorem e_binOp {P op t x y s e H K} : @W _ P ⟨.binOp op t x y s⟩ e H K = @bnd T ((ev e x).bind fun a => (ev e y).bind fun b => binV P op t a b) ⟨fun c => K.k (.t c) H .none⟩ := by
  apply propext; refine PW_binOp.trans ?_
  unfold bnd
  simp only [Option.bind_eq_some_iff]
  constructor
  · rintro ⟨a, h1, b, h2, c, h3, k⟩; exact ⟨c, ⟨a, h1, b, h2, h3⟩, k⟩
  · rintro ⟨c, ⟨a, h1, b, h2, h3⟩, k⟩; exact ⟨a, h1, b, h2, c, h3, k⟩
@[go_sem ↓] theorem e_unOp {P op t x e H K} : @W _ P ⟨.unOp op t x⟩ e H K = @bnd T (((ev e x).bind tOf).bind fun a => unT op a) ⟨fun c => K.k (.t c) H .none⟩ := by
  apply propext; refine PW_unOp.trans ?_
  unfold bnd
  simp only [Option.bind_eq_some_iff, tOf_some]
  constructor
  · rintro ⟨a, h1, c, h3, k⟩; exact ⟨c, ⟨a, ⟨_, h1, rfl⟩, h3⟩, k⟩
  · rintro ⟨c, ⟨a, ⟨_, h1, rfl⟩, h3⟩, k⟩; exact ⟨a, h1, c, h3, k⟩
theorem e_other {P op e H K} (h : ∀ call, opRunC P call op e H = opRun P op e H) : @W _ P ⟨op⟩ e H K = @bnd Res (opRun P op e H) ⟨fun r => K.k r.v r.H r.eff⟩ := by
  apply propext; exact PW_op h
@[go_sem ↓] theorem e_convert {P s d x e H K} : @W _ P ⟨.convert s d x⟩ e H K = @bnd Res (opRun P (.convert s d x) e H) ⟨fun r => K.k r.v r.H r.eff⟩ := e_other fun _ => rfl
@[go_sem ↓] theorem e_box {P t x e H K} : @W _ P ⟨.box t x⟩ e H K = @bnd Res (opRun P (.box t x) e H) ⟨fun r => K.k r.v r.H r.eff⟩ := e_other fun _ => rfl
@[go_sem ↓] theorem e_alloc {P t e H K} : @W _ P ⟨.alloc t⟩ e H K = @bnd Res (opRun P (.alloc t) e H) ⟨fun r => K.k r.v r.H r.eff⟩ := e_other fun _ => rfl
@[go_sem ↓] theorem e_build {P t p e H K} : @W _ P ⟨.build t p⟩ e H K = @bnd Res (opRun P (.build t p) e H) ⟨fun r => K.k r.v r.H r.eff⟩ := e_other fun _ => rfl
@[go_sem ↓] theorem e_buildSlice {P t n p e H K} : @W _ P ⟨.buildSlice t n p⟩ e H K = @bnd Res (opRun P (.buildSlice t n p) e H) ⟨fun r => K.k r.v r.H r.eff⟩ := e_other fun _ => rfl
@[go_sem ↓] theorem e_makeMap {P t e H K} : @W _ P ⟨.makeMap t none⟩ e H K = @bnd Res (if mapSB P t = true then some ⟨.mp H.length, H ++ [⟨[], 0, false⟩], .none⟩ else none) ⟨fun r => K.k r.v r.H r.eff⟩ := e_other fun _ => rfl
@[go_sem ↓] theorem e_lookup {P t x k e H K} : @W _ P ⟨.lookup t x k false⟩ e H K = @bnd Res ((ev e x).bind fun a => (ev e k).bind fun b => if mapSB P t = true then lookM H a b else none) ⟨fun r => K.k r.v r.H r.eff⟩ := by
  refine (e_other fun _ => rfl).trans ?_
  simp only [opRun]
  cases ev e x <;> cases ev e k <;> rfl
@[go_sem ↓] theorem e_mapUpdate {P t x k y e H K} : @W _ P ⟨.mapUpdate t x k y⟩ e H K = @bnd Res ((ev e x).bind fun a => (ev e k).bind fun b => (ev e y).bind fun c => if mapSB P t = true then updM H a b c else none) ⟨fun r => K.k r.v r.H r.eff⟩ := by
  refine (e_other fun _ => rfl).trans ?_
  simp only [opRun]
  cases ev e x <;> cases ev e k <;> cases ev e y <;> rfl
@[go_sem] theorem lookM_nil {H s} : lookM H (.t .nilm) (.t (.str s)) = some ⟨.t (.bool false), H, .none⟩ := rfl
@[go_sem] theorem lookM_mp {H id s} : lookM H (.mp id) (.t (.str s)) = (H[id]?).bind fun o => (keysOf o).bind fun ks => some ⟨.t (.bool (ks.contains s)), H, .none⟩ := rfl
@[go_sem] theorem updM_mp {H id s} : updM H (.mp id) (.t (.str s)) (.t (.bool true)) = (H[id]?).bind fun o => (keysOf o).bind fun ks => some ⟨.dead, if ks.contains s = true then H else H.set id { o with el := o.el ++ [.t (.str s)] }, .grow id⟩ := rfl
@[go_sem] theorem lenT_nilm (H) : lenT H .map (.t .nilm) = some ⟨.t (.int .i64 0), H, .none⟩ := rfl
@[go_sem] theorem lenT_mp (H id) : lenT H .map (.mp id) = (H[id]?).bind fun o => (keysOf o).bind fun ks => some ⟨.t (.int .i64 ks.length), H, .bad⟩ := rfl
@[go_sem] theorem isMap_map : Kd.map.isMap = true := rfl
@[go_sem] theorem binS_mm {P op t} : binS P op t .nilm .nilm = binT op (kdOf P t) .nilm .nilm := rfl
@[go_sem] theorem binT_mm {op kd} : binT op kd .nilm .nilm = if kd.isMap then eqNil op true else none := rfl
@[go_sem] theorem binV_mn {P op t id} : binV P op t (.mp id) (.t .nilm) = if (kdOf P t).isMap then eqNil op false else none := rfl
@[go_sem ↓] theorem e_makeSlice {P t l c e H K} : @W _ P ⟨.makeSlice t l c⟩ e H K = @bnd Res (opRun P (.makeSlice t l c) e H) ⟨fun r => K.k r.v r.H r.eff⟩ := e_other fun _ => rfl
@[go_sem ↓] theorem e_makeFunc {P f a b e H K} : @W _ P ⟨.makeFunc (.func f) a b⟩ e H K = @bnd Res (opRun P (.makeFunc (.func f) a b) e H) ⟨fun r => K.k r.v r.H r.eff⟩ := e_other fun _ => rfl
@[go_sem ↓] theorem e_slice {P t x a b c e H K} : @W _ P ⟨.slice t x a b c⟩ e H K = @bnd Res (opRun P (.slice t x a b c) e H) ⟨fun r => K.k r.v r.H r.eff⟩ := e_other fun _ => rfl
@[go_sem ↓] theorem e_index {P t x i e H K} : @W _ P ⟨.index t x i⟩ e H K = @bnd Res (opRun P (.index t x i) e H) ⟨fun r => K.k r.v r.H r.eff⟩ := e_other fun _ => rfl
@[go_sem ↓] theorem e_extract {P x i e H K} : @W _ P ⟨.extract x i⟩ e H K = @bnd Res (opRun P (.extract x i) e H) ⟨fun r => K.k r.v r.H r.eff⟩ := e_other fun _ => rfl
@[go_sem ↓] theorem e_nilCheck {P x e H K} : @W _ P ⟨.nilCheck x⟩ e H K = @bnd Res (opRun P (.nilCheck x) e H) ⟨fun r => K.k r.v r.H r.eff⟩ := e_other fun _ => rfl
@[go_sem ↓] theorem e_builtin {P b a t e H K} : @W _ P ⟨.call { callee := .builtin b, args := a, argTypes := t }⟩ e H K = @bnd Res (opRun P (.call { callee := .builtin b, args := a, argTypes := t }) e H) ⟨fun r => K.k r.v r.H r.eff⟩ := e_other fun _ => rfl
@[go_sem ↓] theorem e_call {P f args t e H K} : @W _ P ⟨.call { callee := .value f, args := args, argTypes := t }⟩ e H K = @bnd (FuncId × List V) ((ev e f).bind fun v => (evs e args.toList).bind fun vs => fnArgs v vs) ⟨fun p => @F _ P p.1 p.2 H K⟩ := by
  apply propext; refine PW_call.trans ?_
  unfold bnd
  simp only [Option.bind_eq_some_iff]
  constructor
  · rintro ⟨v, h1, vs, h2, p, h3, k⟩; exact ⟨p, ⟨v, h1, vs, h2, h3⟩, k⟩
  · rintro ⟨p, ⟨v, h1, vs, h2, h3⟩, k⟩; exact ⟨v, h1, vs, h2, p, h3, k⟩

@[go_sem ↓] theorem e_makeInterface {P t x e H K} : @W _ P ⟨.makeInterface t x⟩ e H K = @bnd V (if solid P t = true then (ev e x).bind (ifcV t) else none) ⟨fun v => K.k v H .none⟩ := by
  refine (e_other fun _ => rfl).trans ?_
  simp only [opRun]
  cases solid P t <;> cases hx : ev e x <;> simp [bnd]
  rename_i v
  cases ifcV t v <;> simp [ret]
@[go_sem ↓] theorem e_typeAssert {P t u x e H K} : @W _ P ⟨.typeAssert x u t true⟩ e H K = @bnd V (if solid P t = true then (ev e x).bind (assertV t) else none) ⟨fun v => K.k v H .none⟩ := by
  refine (e_other fun _ => rfl).trans ?_
  simp only [opRun]
  cases solid P t <;> cases hx : ev e x <;> simp [bnd]
  rename_i v
  cases assertV t v <;> simp [ret]
@[go_sem ↓] theorem e_invoke {P x name args t e H K} : @W _ P ⟨.call { callee := .invoke x name, args := args, argTypes := t }⟩ e H K = @bnd (FuncId × List V) ((ev e x).bind fun v => (evs e args.toList).bind fun vs => (recvOf P H name v).bind fun p => some (p.1, p.2 :: vs)) ⟨fun p => HeapGo P p.1 p.2 H K.k⟩ := by
  apply propext; refine PW_invoke.trans ?_
  unfold bnd HeapGo
  simp only [Option.bind_eq_some_iff]
  constructor
  · rintro ⟨v, h1, vs, h2, p, h3, k⟩; exact ⟨_, ⟨v, h1, vs, h2, p, h3, rfl⟩, k⟩
  · rintro ⟨q, ⟨v, h1, vs, h2, p, h3, h4⟩, k⟩
    simp only [Option.some.injEq] at h4; subst h4
    exact ⟨v, h1, vs, h2, p, h3, k⟩
omit [Orc] in
@[go_sem] theorem recvOf_ifc {P H name t x} : recvOf P H name (.ifc t x) = (methOf P t name).bind fun p => recvK P H x p := by
  simp only [recvOf]
  cases methOf P t name with
  | none => rfl
  | some p => obtain ⟨f, o⟩ := p; cases o <;> rfl
omit [Orc] in
@[go_sem] theorem recvK_none {P H x f} : recvK P H x (f, none) = some (f, x) := rfl
omit [Orc] in
@[go_sem] theorem recvK_some {P H x f el} : recvK P H x (f, some el) = (loadV H (tyOf P el) x).bind fun r => some (f, r.v) := by
  simp only [recvK]; cases loadV H (tyOf P el) x <;> rfl
omit [Orc] in
@[go_sem] theorem ifcV_t {t x} : ifcV t (.t x) = some (.t (.iface t x)) := rfl
omit [Orc] in
@[go_sem] theorem ifcV_ptr {t a b c d} : ifcV t (.ptr a b c d) = some (.ifc t (.ptr a b c d)) := rfl
omit [Orc] in
@[go_sem] theorem assertV_t {t x} : assertV t (.t (.iface t x)) = some (.tup [.t x, .t (.bool true)]) := by simp [assertV]
omit [Orc] in
@[go_sem] theorem cutR_ref {H id n k x} : cutR H (.ref id n) none (some (.t (.int k x))) none = cutV H id n x := rfl

def Pu (P : Program) (f : FuncId) (ts : List T) [K : Kp] : Prop := (∃ u, Fun P f ts u ∧ K.k u) ∨ (Dead P f ts ∧ K.q)
theorem Fun.notDead {P : Program} {f : FuncId} {ts : List T} {u : V} (h : Fun P f ts u) : ¬ Dead P f ts := by
  rintro ⟨k', v', H', h1', h2'⟩
  obtain ⟨k, v, H1, h1, h2⟩ := h
  have a := funRun_mono (Nat.le_max_left k k') _ _ _ _ h1
  have b := funRun_mono (Nat.le_max_right k k') _ _ _ _ h1'
  rw [a] at b
  simp only [Option.some.injEq, Prod.mk.injEq] at b
  obtain ⟨rfl, rfl⟩ := b
  rw [fn_exp h2] at h2'; cases h2'
theorem Fun.pu {P : Program} {f : FuncId} {ts : List T} {u : V} (h : Fun P f ts u) {K : Kp} : @Pu _ P f ts K = K.k u :=
  (propext ⟨fun h1 => h1.resolve_right fun h2 => h.notDead h2.1, .inl⟩).trans (propext (h.ex K.k))
theorem Pu.dead {P : Program} {f : FuncId} {ts : List T} (h : Dead P f ts) {K : Kp} (k : K.q) : @Pu _ P f ts K := .inr ⟨h, k⟩

def toTs (H : Heap) : List V → Option (List T)
  | [] => some []
  | v :: r => (toT H depth v).bind fun x => (toTs H r).map (x :: ·)
omit [Orc] in
theorem toTs_eq {H : Heap} : ∀ {vs : List V}, toTs H vs = vs.mapM (toT H depth)
  | [] => rfl
  | v :: r => by
    have ih := toTs_eq (H := H) (vs := r)
    rw [List.mapM_cons, ← ih]
    show ((toT H depth v).bind fun x => (toTs H r).map (x :: ·)) = _
    generalize toTs H r = z
    cases toT H depth v <;> cases z <;> rfl

def kept (u : V) (vs : List V) (H : Heap) : Heap := if noSl u = true then H else vs.foldl (hold depth) H

theorem e_fun {P f vs H K} (hd : (toTs H vs).isSome = true) : @F _ P f vs H K = @bnd (List T) (toTs H vs) ⟨fun ts => @Pu _ P f ts ⟨fun u => @bnd (V × Heap) (some (importV (kept u vs H) u)) ⟨fun p => K.k p.1 p.2 .none⟩, HeapGo P f vs H K.k⟩⟩ := by
  cases h : toTs H vs with
  | none => rw [h] at hd; cases hd
  | some ts =>
    rw [bnd_some]
    apply propext
    rw [toTs_eq] at h
    refine (CaW_pure h).trans ?_
    refine or_congr (exists_congr fun u => and_congr_right fun _ => ?_) Iff.rfl
    show _ ↔ @bnd (V × Heap) (some (importV (kept u vs H) u)) ⟨fun p => K.k p.1 p.2 .none⟩
    rw [bnd_some]
    rfl

def Comes (P : Program) (f : FuncId) (vs : List V) (H : Heap) (u : V) (H' : Heap) (w : Bool) : Prop := ∀ K : Kv, K.k u H' (if w then .ran H H' else .none) → @F _ P f vs H K
theorem Comes.go {P f vs H u H' w} (h : Comes P f vs H u H' w) {K : Kv} (k : K.k u H' (if w then .ran H H' else .none)) : @F _ P f vs H K := h K k
theorem Comes.heap {P f vs H u H'} (hn : toTs H vs = none) (h : FunH P f vs H u H') (hu : u.isDead = false := by rfl) : Comes P f vs H u H' true := by
  intro K k
  obtain ⟨m, hm⟩ := h
  rw [toTs_eq] at hn
  refine ⟨m, ⟨u, H', .ran H H'⟩, ?_, k⟩
  unfold callRun heapRun
  rw [hn]
  simp only [hm, hu, Bool.false_eq_true, if_false]
theorem HeapGo.go {P f vs H u H'} {K : V → Heap → Eff → Prop} (h : FunH P f vs H u H') (k : K u H' (.ran H H')) (hu : u.isDead = false := by rfl) : HeapGo P f vs H K := by
  obtain ⟨m, hm⟩ := h
  exact ⟨m, ⟨u, H', .ran H H'⟩, by unfold heapRun; simp only [hm, hu, Bool.false_eq_true, if_false], k⟩
theorem Comes.data {P f vs H ts u} (hd : toTs H vs = some ts) (h : Fun P f ts u) (hs : noSl u = true) : Comes P f vs H u H false := by
  intro K k
  rw [e_fun (by rw [hd]; rfl), hd, bnd_some]
  refine .inl ⟨u, h, ?_⟩
  show @bnd (V × Heap) (some (importV (kept u vs H) u)) ⟨fun p => K.k p.1 p.2 .none⟩
  rw [bnd_some]
  have e1 : kept u vs H = H := by simp [kept, hs]
  have e2 : importV H u = (u, H) := by cases u <;> first | rfl | simp [noSl] at hs
  rw [e1, e2]
  exact k

omit [Orc] in
@[go_sem] theorem put_at (e : Env) (t x v) : put e t v x = if x = t then v else e x := rfl
omit [Orc] in
@[go_sem] theorem ev_tmp (e t) : ev e (.tmp t) = some (e t) := rfl
omit [Orc] in
@[go_sem] theorem ev_const (e v) : ev e (.const v) = ofVal v := rfl
omit [Orc] in
@[go_sem] theorem ev_func (e f) : ev e (.func f) = some (.t (.fn f)) := rfl
omit [Orc] in
@[go_sem] theorem ofVal_bool (b) : ofVal (.bool b) = some (.t (.bool b)) := rfl
omit [Orc] in
theorem ofVal_int (k n) : ofVal (.int k n) = some (.t (.int k n)) := rfl
omit [Orc] in
@[go_sem] theorem ofVal_i64 (n) : ofVal (.int .i64 n) = some (.t (.int .i64 n)) := rfl
omit [Orc] in
@[go_sem] theorem ofVal_u64 (n) : ofVal (.int .u64 n) = some (.t (.int .u64 n)) := rfl
omit [Orc] in
@[go_sem] theorem ofVal_u8 (n) : ofVal (.int .u8 n) = some (.t (.int .u8 n)) := rfl
omit [Orc] in
@[go_sem] theorem ofVal_i32 (n) : ofVal (.int .i32 n) = some (.t (.int .i32 n)) := rfl
omit [Orc] in
@[go_sem] theorem ofVal_u32 {n} (h0 : 0 ≤ n) (h1 : n ≤ 4294967295) : ofVal (.int .u32 n) = some (.t (.int .u32 (((BitVec.ofNat 32 n.toNat).toNat : Nat) : Int))) := by
  have e : ((BitVec.ofNat 32 n.toNat).toNat : Int) = n := by rw [BitVec.toNat_ofNat, Nat.mod_eq_of_lt (by omega)]; omega
  rw [e]; rfl
omit [Orc] in
@[go_sem] theorem ofVal_str (s) : ofVal (.string s) = some (.t (.str s)) := rfl
omit [Orc] in
@[go_sem] theorem ofVal_nil : ofVal (.slice none 0 0) = some (.ex []) := rfl
omit [Orc] in
@[go_sem] theorem ofVal_nilp : ofVal (.pointer none) = some (.t .nilp) := rfl
omit [Orc] in
@[go_sem] theorem ofVal_nilf : ofVal .nilFunc = some (.t .nilf) := rfl
omit [Orc] in
@[go_sem] theorem ofVal_nili : ofVal .nilIface = some (.t .nili) := rfl
omit [Orc] in
@[go_sem] theorem effP_ptr (a b c d) : effP (.ptr a b c d) = .load a := rfl
omit [Orc] in
@[go_sem] theorem effP_tp (a b c) : effP (.tp a b c) = .none := rfl
omit [Orc] in
@[go_sem] theorem boolOf_t (b) : boolOf (.t (.bool b)) = some b := rfl
omit [Orc] in
@[go_sem] theorem tOf_t (x) : tOf (.t x) = some x := rfl
omit [Orc] in
@[go_sem] theorem asInt_t (k n) : asInt (.t (.int k n)) = some n := rfl
attribute [go_sem ↓] thenX_n thenX_exit thenX_ret blockX_n blockX_exit blockX_ret
attribute [go_sem] Option.bind_some Option.map_some if_true if_false Option.bind_none

omit [Orc] in
@[go_sem] theorem evs_nil (e) : evs e [] = some [] := rfl
omit [Orc] in
@[go_sem] theorem evs_cons (e x r) : evs e (x :: r) = (ev e x).bind fun v => (evs e r).bind fun vs => some (v :: vs) := by
  conv => lhs; unfold evs
  cases ev e x <;> cases evs e r <;> rfl
omit [Orc] in
@[go_sem] theorem evParts_nil (e) : evParts e [] = some [] := rfl
omit [Orc] in
@[go_sem] theorem evParts_cons (e i x r) : evParts e ((i, x) :: r) = (ev e x).bind fun v => (evParts e r).bind fun vs => some ((i, v) :: vs) := by
  conv => lhs; unfold evParts
  cases ev e x <;> cases evParts e r <;> rfl
omit [Orc] in
@[go_sem] theorem fnArgs_t (f vs) : fnArgs (.t (.fn f)) vs = some (f, vs) := rfl
omit [Orc] in
@[go_sem] theorem fnArgs_fn (f a b vs) : fnArgs (.fn f a b) vs = some (f, a ++ vs ++ b) := rfl
omit [Orc] in
@[go_sem] theorem toT_t (H n x) : toT H n (.t x) = some x := by cases n <;> rfl
omit [Orc] in
@[go_sem] theorem toT_ex (H n xs) : toT H n (.ex xs) = some (.sl xs) := by cases n <;> rfl
omit [Orc] in
@[go_sem] theorem toTs_nil (H) : toTs H [] = some [] := rfl
omit [Orc] in
@[go_sem] theorem toTs_cons (H v r) : toTs H (v :: r) = (toT H depth v).bind fun x => (toTs H r).bind fun xs => some (x :: xs) := by
  conv => lhs; unfold toTs
  cases toT H depth v <;> cases toTs H r <;> rfl
omit [Orc] in
theorem mapM_t (H : Heap) (n : Nat) : ∀ (xs : List T), (xs.map V.t).mapM (toT H n) = some xs
  | [] => rfl
  | x :: xs => by rw [List.map_cons, List.mapM_cons, mapM_t H n xs, toT_t]; rfl
omit [Orc] in
theorem toT_ref {H : Heap} {id n : Nat} {o : Obj} {xs : List T} (h : cur H id n = some o) (he : o.el = xs.map V.t) : toT H depth (.ref id n) = some (.sl xs) := by
  show (match cur H id n with | some o => (o.el.mapM (toT H 3)).map T.sl | none => none) = _
  rw [h]
  simp only [he, mapM_t, Option.map_some]
omit [Orc] in
@[go_sem] theorem noSl_int (k n) : noSl (.t (.int k n)) = true := rfl
omit [Orc] in
@[go_sem] theorem noSl_bool (b) : noSl (.t (.bool b)) = true := rfl
omit [Orc] in
@[go_sem] theorem noSl_str (b) : noSl (.t (.str b)) = true := rfl
omit [Orc] in
@[go_sem] theorem noSl_sl (b) : noSl (.t (.sl b)) = false := rfl
omit [Orc] in
@[go_sem] theorem noSl_fr (a b c) : noSl (.fr a b c) = false := rfl
omit [Orc] in
@[go_sem] theorem noSl_ex (a) : noSl (.ex a) = false := rfl
omit [Orc] in
@[go_sem] theorem importV_t (H x) : importV H (.t x) = (.t x, H) := rfl
omit [Orc] in
@[go_sem] theorem importV_ex (H x) : importV H (.ex x) = (.ex x, H) := rfl
omit [Orc] in
@[go_sem] theorem importV_tup (H x) : importV H (.tup x) = (.tup x, H) := rfl
omit [Orc] in
@[go_sem] theorem importV_fr (H e s xs) : importV H (.fr e s xs) = (.ref H.length xs.length, H ++ [⟨xs.map .t, e, s⟩]) := rfl
omit [Orc] in
@[go_sem] theorem kept_scalar {u : V} {vs : List V} {H : Heap} (h : noSl u = true) : kept u vs H = H := by simp [kept, h]
omit [Orc] in
theorem kept_other {u : V} {vs : List V} {H : Heap} (h : noSl u = false) : kept u vs H = vs.foldl (hold depth) H := by simp [kept, h]
attribute [go_sem] kept_other List.foldl_cons List.foldl_nil
omit [Orc] in
@[go_sem] theorem hold_t (n H x) : hold n H (.t x) = H := by cases n <;> rfl
omit [Orc] in
@[go_sem] theorem hold_ex (n H x) : hold n H (.ex x) = H := by cases n <;> rfl
omit [Orc] in
theorem foldl_hold_t (n : Nat) (H : Heap) (xs : List T) : (xs.map V.t).foldl (hold n) H = H := by
  induction xs generalizing H with
  | nil => rfl
  | cons x xs ih => simp only [List.map_cons, List.foldl_cons, hold_t]; exact ih H
omit [Orc] in
theorem hold_ref {H : Heap} {id n : Nat} {o : Obj} {xs : List T} (h : cur H id n = some o) (he : o.el = xs.map V.t) : hold depth H (.ref id n) = H.set id { o with st := true } := by
  show (match cur H id n with | some o => o.el.foldl (hold 3) (H.set id { o with st := true }) | none => H) = _
  rw [h]
  simp only [he, foldl_hold_t]
omit [Orc] in
theorem cur_some {H : Heap} {id n : Nat} {o : Obj} (h : H[id]? = some o) (hn : o.el.length = n) : cur H id n = some o := by simp [cur, h, hn]
omit [Orc] in
@[go_sem] theorem lenOf_sl (H xs) : lenOf H (.t (.sl xs)) = some xs.length := rfl
omit [Orc] in
@[go_sem] theorem lenOf_ex (H xs) : lenOf H (.ex xs) = some xs.length := rfl
omit [Orc] in
@[go_sem] theorem lenOf_ref (H id n) : lenOf H (.ref id n) = (cur H id n).bind fun _ => some n := by
  show (cur H id n).map (fun _ => n) = _
  cases cur H id n <;> rfl

def exps (H : Heap) : List V → Option (List V)
  | [] => some []
  | v :: r => (exp1 H v).bind fun u => (exps H r).bind fun us => some (u :: us)
omit [Orc] in
theorem exps_eq {H : Heap} : ∀ {vs : List V}, exps H vs = vs.mapM (exp1 H)
  | [] => rfl
  | v :: r => by
    have ih := exps_eq (H := H) (vs := r)
    rw [List.mapM_cons, ← ih]
    show (exp1 H v).bind (fun u => (exps H r).bind fun us => some (u :: us)) = _
    generalize exps H r = z
    generalize exp1 H v = y
    cases y <;> cases z <;> rfl
omit [Orc] in
theorem exportV_tup (H vs) : exportV H (.tup vs) = (exps H vs).bind fun us => some (.tup us) := by
  rw [exps_eq]
  simp only [exportV]
  generalize (vs.mapM (exp1 H)) = y
  cases y <;> rfl
omit [Orc] in
theorem exportB_true (H v) : exportB true H v = exportV H v := rfl
omit [Orc] in
theorem exportB_false (H v) : exportB false H v = exportD H v := rfl
omit [Orc] in
theorem exportD_t (H x) : exportD H (.t x) = some (.t x) := by simp [exportD, toT_t]
omit [Orc] in
theorem exportD_ex (H x) : exportD H (.ex x) = some (.t (.sl x)) := by simp [exportD, toT_ex]
omit [Orc] in
theorem exportD_ref (H id n) : exportD H (.ref id n) = (toT H depth (.ref id n)).bind fun x => some (.t x) := by simp only [exportD]; cases toT H depth (.ref id n) <;> rfl
omit [Orc] in
theorem exportD_agg (H cs) : exportD H (.agg cs) = (toT H depth (.agg cs)).bind fun x => some (.t x) := by simp only [exportD]; cases toT H depth (.agg cs) <;> rfl
omit [Orc] in
theorem toTs_mapM {H : Heap} : ∀ {vs : List V}, toTs H vs = vs.mapM (toT H depth)
  | [] => rfl
  | v :: r => by
    rw [List.mapM_cons, ← toTs_mapM (vs := r)]
    simp only [toTs_cons]
    cases toT H depth v <;> cases toTs H r <;> rfl
omit [Orc] in
theorem exportD_tup (H vs) : exportD H (.tup vs) = (toTs H vs).bind fun ts => some (.tup (ts.map .t)) := by
  rw [toTs_mapM]; simp only [exportD]; cases (vs.mapM (toT H depth)) <;> rfl
omit [Orc] in
theorem exportV_t (H x) : exportV H (.t x) = some (.t x) := by simp [exportV, toT_t]
omit [Orc] in
theorem exportV_ex (H x) : exportV H (.ex x) = some (.ex x) := rfl
omit [Orc] in
theorem fold_hold_t (d : Nat) (H : Heap) : ∀ xs : List T, (xs.map V.t).foldl (hold d) H = H := by
  intro xs
  induction xs with
  | nil => rfl
  | cons x xs ih => simp only [List.map_cons, List.foldl_cons]; rw [hold_t]; exact ih
omit [Orc] in
theorem exportV_ref {H : Heap} {id n : Nat} {o : Obj} {xs : List T} (h : cur H id n = some o) (he : o.el = xs.map V.t) : exportV H (.ref id n) = some (.fr o.esz o.st xs) := by
  have h1 : H[id]? = some o := by
    unfold cur at h
    split at h
    · rename_i o' h'
      split at h
      · cases h; exact h'
      · cases h
    · cases h
  simp only [exportV, h, he, mapM_t, Option.map_some, fold_hold_t, h1, if_true]
omit [Orc] in
theorem exps_nil (H) : exps H [] = some [] := rfl
omit [Orc] in
theorem exps_t (H x r) : exps H (.t x :: r) = (exps H r).bind fun us => some (.t x :: us) := by simp [exps, exp1, toT_t]
omit [Orc] in
theorem exps_ex (H x r) : exps H (.ex x :: r) = (exps H r).bind fun us => some (.ex x :: us) := by simp [exps, exp1]
omit [Orc] in
theorem exps_ref {H : Heap} {id n : Nat} {xs : List T} (h : toT H depth (.ref id n) = some (.sl xs)) (r) : exps H (.ref id n :: r) = (exps H r).bind fun us => some (.t (.sl xs) :: us) := by
  simp [exps, exp1, h]
omit [Orc] in
theorem resVs_nil (P e H) : resVs P e H [] = some [] := rfl
omit [Orc] in
theorem resVs_tmp (P e H t r) : resVs P e H (.tmp t :: r) = (resVs P e H r).bind fun vs => some (e t :: vs) := by
  simp only [resVs, resV]; cases resVs P e H r <;> rfl
omit [Orc] in
theorem resVs_cell (P e H a t r) : resVs P e H (.cell a t :: r) = (loadV H (tyOf P t) (e a)).bind fun x => (resVs P e H r).bind fun vs => some (x.v :: vs) := by
  simp only [resVs, resV]; cases loadV H (tyOf P t) (e a) <;> cases resVs P e H r <;> rfl
omit [Orc] in
theorem one_1 (v) : one [v] = v := rfl
omit [Orc] in
theorem one_2 (v u r) : one (v :: u :: r) = .tup (v :: u :: r) := rfl

def okX : X → Prop
  | .exit _ => False
  | _ => True
omit [Orc] in
theorem okX_n : okX .n = True := rfl
omit [Orc] in
theorem okX_ret : okX .ret = True := rfl

theorem Fun.go {P : Program} {f : FuncId} {fn : Func} {c : Code} {rs : List ResultVar} {ts : List T} {u : V} (hf : P.funcs[f]? = some fn) (hb : fn.body = some c) (hr : fn.results = rs.toArray) {b : Bool} (hfr : isFresh P f = b) (hk : fnOk drawOk fn = true)
    (h : @C _ P ⟨c⟩ (enter (ts.map .t)) [] ⟨fun x e H => okX x ∧ (resVs P e H rs).bind (fun vs => exportB b H (one vs)) = some u⟩) (ho : Orc.has f = false := by rfl) : Fun P f ts u := by
  subst hfr
  refine Fun.intro hf hb hk (CW.mono h ?_) ho
  rintro x e H ⟨hx, h⟩
  rw [Option.bind_eq_some_iff] at h
  rw [hr]
  exact ⟨by cases x <;> simp_all [okX], h⟩

theorem FunH.go {P : Program} {f : FuncId} {fn : Func} {c : Code} {rs : List ResultVar} {vs : List V} {H H' : Heap} {u : V} (hf : P.funcs[f]? = some fn) (hb : fn.body = some c) (hr : fn.results = rs.toArray) (hk : fnOk drawOk fn = true)
    (h : @C _ P ⟨c⟩ (enter vs) H ⟨fun x e H1 => okX x ∧ (resVs P e H1 rs).bind (fun vs => some (one vs, H1)) = some (u, H')⟩) (ho : Orc.has f = false := by rfl) : FunH P f vs H u H' := by
  obtain ⟨k, x, e, H1, h1, hx, h2⟩ := h
  rw [Option.bind_eq_some_iff] at h2
  obtain ⟨us, h3, h4⟩ := h2
  simp only [Option.some.injEq, Prod.mk.injEq] at h4
  obtain ⟨rfl, rfl⟩ := h4
  have hk' : codeRun P (funRun P k) k c (enter vs) H = some (x, e, H1) := h1
  refine ⟨k + 1, ?_⟩
  simp only [funRun, ho, Bool.false_eq_true, if_false, hf, hk, if_true, hb, hk', hr]
  cases x with
  | n => simp [h3]
  | exit id => exact hx.elim
  | ret => simp [h3]

theorem FunH.go' {P : Program} {f : FuncId} {fn : Func} {c : Code} {rs : List ResultVar} {vs : List V} {H : Heap} {u : V} (hf : P.funcs[f]? = some fn) (hb : fn.body = some c) (hr : fn.results = rs.toArray) (hk : fnOk drawOk fn = true)
    (h : @C _ P ⟨c⟩ (enter vs) H ⟨fun x e H1 => okX x ∧ (resVs P e H1 rs).bind (fun vs => some (one vs)) = some u⟩) (ho : Orc.has f = false := by rfl) : ∃ H', FunH P f vs H u H' := by
  obtain ⟨k, x, e, H1, h1, hx, h2⟩ := h
  rw [Option.bind_eq_some_iff] at h2
  obtain ⟨us, h3, h4⟩ := h2
  simp only [Option.some.injEq] at h4
  exact ⟨H1, FunH.go hf hb hr hk ⟨k, x, e, H1, h1, hx, by rw [h3]; simp [h4]⟩ ho⟩

omit [Orc] in
omit [Orc] in
theorem lenT_sl (H e xs) : lenT H (.sl e) (.t (.sl xs)) = some ⟨.t (.int .i64 xs.length), H, .none⟩ := rfl
omit [Orc] in
theorem lenT_ex (H e xs) : lenT H (.sl e) (.ex xs) = some ⟨.t (.int .i64 xs.length), H, .none⟩ := rfl
omit [Orc] in
theorem lenT_str (H s) : lenT H .str (.t (.str s)) = some ⟨.t (.int .i64 s.size), H, .none⟩ := rfl
omit [Orc] in
theorem lenT_ref (H e id n) : lenT H (.sl e) (.ref id n) = (cur H id n).bind fun _ => some ⟨.t (.int .i64 n), H, .load id⟩ := by
  show ((cur H id n).map (fun _ => n)).bind _ = _
  cases cur H id n <;> rfl
omit [Orc] in
theorem r_len (P a t e H) : opRun P (.call { callee := .builtin .len, args := #[a], argTypes := #[t] }) e H = (ev e a).bind fun x => lenT H (kdOf P t) x := by
  simp only [opRun, evs]
  cases ev e a <;> rfl
omit [Orc] in
theorem r_makeSlice (P t l c e H) : opRun P (.makeSlice t l c) e H = ((ev e l).bind asInt).bind fun l => ((ev e c).bind asInt).bind fun c => makeV P H (kdOf P t) l c := by
  simp only [opRun]
  cases ev e l with
  | none => rfl
  | some v => cases v with
    | t x => cases x with
      | int k n => cases ev e c with
        | none => rfl
        | some u => cases u with
          | t y => cases y <;> rfl
          | _ => rfl
      | _ => rfl
    | _ => rfl
omit [Orc] in
theorem r_buildSlice (P t len parts e H) : opRun P (.buildSlice t len (List.toArray parts)) e H = (match kdOf P t with
    | .sl el => if (nilL len parts && bigEl P el) = true then some ⟨.ref H.length 1, H ++ [⟨[.ex []], 1, false⟩], .none⟩ else
      litR (liveOf P el len parts (evParts e parts)) H ((evParts e parts).bind fun l => (zeroV P el).bind fun z => (infoOf P el).bind fun i => (toT H depth z).bind fun z' =>
        if len * i.1 ≤ 2 ^ 24 ∧ z'.cells.length = i.1 ∧ 0 < i.1 ∧ 0 < i.2 ∧ (l.all fun p => p.2.cells.length == i.1) = true then
          (litV H (List.replicate len z') l).bind fun xs => some ⟨.ex xs, (l.map (·.2)).foldl (hold depth) H, effB (l.map (·.2))⟩ else none)
    | _ => none) := rfl
omit [Orc] in
theorem r_convert (P s d x e H) : opRun P (.convert s d x) e H = (ev e x).bind fun v => convV P (kdOf P s) (kdOf P d) v H := rfl
@[go_sem] theorem convV_int {P a k b n H} : convV P (.int a) (.int k) (.t (.int b n)) H = ret (.t (.int k (k.wrap n))) H := rfl
@[go_sem] theorem convV_str {P s H} : convV P .str .str (.t (.str s)) H = ret (.t (.str s)) H := rfl
@[go_sem] theorem convV_bytes {P el xs H} : convV P (.sl el) .str (.ex xs) H = if (kdOf P el).isU8 = true then (bytesT xs).bind fun b => ret (.t (.str ⟨b.toArray⟩)) H else none := rfl
@[go_sem] theorem bytesT_nil : bytesT [] = some [] := rfl
@[go_sem] theorem bytesT_cons {n r} : bytesT (.int .u8 n :: r) = (bytesT r).map (UInt8.ofNat n.toNat :: ·) := rfl
@[go_sem] theorem isU8_u8 : (Kd.int .u8).isU8 = true := rfl
omit [Orc] in
theorem r_box (P t x e H) : opRun P (.box t x) e H = (ev e x).bind fun v => if v.storable = true then some ⟨.ptr H.length 1 0 0, H ++ [⟨[v], v.cells.length, false⟩], .none⟩ else none := by
  simp only [opRun]
  cases ev e x <;> rfl
omit [Orc] in
theorem r_append (P t u s x e H) : opRun P (.call { callee := .builtin .append, args := #[s, x], argTypes := #[t, u] }) e H = (ev e s).bind fun s => (ev e x).bind fun x => (match kdOf P t, kdOf P u with
      | .sl e, .sl _ => (slOf H x).bind fun ys => appendV (rowOf P e) H s ys
      | _, _ => none) := by
  simp only [opRun, evs]
  cases ev e s <;> cases ev e x <;> rfl
omit [Orc] in
@[go_sem] theorem binV_t {P op t a b} : binV P op t (.t a) (.t b) = binS P op t a b := rfl
@[go_sem] theorem binV_pn {P op t id n i off} : binV P op t (.ptr id n i off) (.t .nilp) = if (kdOf P t).isPtr then eqNil op false else none := rfl
@[go_sem] theorem binV_np {P op t id n i off} : binV P op t (.t .nilp) (.ptr id n i off) = if (kdOf P t).isPtr then eqNil op false else none := rfl
@[go_sem] theorem binV_qn {P op t xs i off} : binV P op t (.tp xs i off) (.t .nilp) = if (kdOf P t).isPtr then eqNil op false else none := rfl
@[go_sem] theorem isPtr_ptr : Kd.ptr.isPtr = true := rfl
@[go_sem] theorem eqNil_eql (b : Bool) : eqNil .eql b = some (.bool b) := rfl
@[go_sem] theorem eqNil_neq (b : Bool) : eqNil .neq b = some (.bool (!b)) := rfl
@[go_sem] theorem binS_pp {P op t} : binS P op t .nilp .nilp = binT op (kdOf P t) .nilp .nilp := rfl
@[go_sem] theorem binT_pp {op kd} : binT op kd .nilp .nilp = if kd.isPtr then eqNil op true else none := rfl
@[go_sem] theorem binS_int {P op t k k' a b} : binS P op t (.int k a) (.int k' b) = binT op (kdOf P t) (.int k a) (.int k' b) := rfl
@[go_sem] theorem binS_bool {P op t a b} : binS P op t (.bool a) (.bool b) = binT op (kdOf P t) (.bool a) (.bool b) := rfl
@[go_sem] theorem binS_str {P op t a b} : binS P op t (.str a) (.str b) = binT op (kdOf P t) (.str a) (.str b) := rfl
@[go_sem] theorem binS_nn {P op t} : binS P op t .nilf .nilf = binT op (kdOf P t) .nilf .nilf := rfl
@[go_sem] theorem binS_fn {P op t f} : binS P op t (.fn f) .nilf = binT op (kdOf P t) (.fn f) .nilf := rfl
@[go_sem] theorem binS_nf {P op t f} : binS P op t .nilf (.fn f) = binT op (kdOf P t) .nilf (.fn f) := rfl
theorem binT_int (op xb k a b) : binT op xb (.int k a) (.int k b) = (match op with
    | .shl => if b < 0 then none else some (.int k (k.wrap (a * 2 ^ min b.toNat k.bits)))
    | .shr => if b < 0 then none else some (.int k (a.fdiv (2 ^ min b.toNat k.bits)))
    | op => intBin op k a b) := by
  cases op <;> simp [binT]
omit [Orc] in
theorem binT_shl {xb k k' a b} (h : 0 ≤ b) : binT .shl xb (.int k a) (.int k' b) = some (.int k (k.wrap (a * 2 ^ min b.toNat k.bits))) := by simp [binT]; omega
omit [Orc] in
theorem binT_shr {xb k k' a b} (h : 0 ≤ b) : binT .shr xb (.int k a) (.int k' b) = some (.int k (a.fdiv (2 ^ min b.toNat k.bits))) := by simp [binT]; omega
omit [Orc] in
theorem binT_quo {xb k a b} (h : b ≠ 0) : binT .quo xb (.int k a) (.int k b) = some (.int k (k.wrap (a.tdiv b))) := by simp [binT, intBin, h]
omit [Orc] in
theorem binT_rem {xb k a b} (h : b ≠ 0) : binT .rem xb (.int k a) (.int k b) = some (.int k (a.tmod b)) := by simp [binT, intBin, h]
omit [Orc] in
theorem binT_add {xb k a b} : binT .add xb (.int k a) (.int k b) = some (.int k (k.wrap (a + b))) := by simp [binT, intBin]
omit [Orc] in
theorem binT_sub {xb k a b} : binT .sub xb (.int k a) (.int k b) = some (.int k (k.wrap (a - b))) := by simp [binT, intBin]
omit [Orc] in
theorem binT_mul {xb k a b} : binT .mul xb (.int k a) (.int k b) = some (.int k (k.wrap (a * b))) := by simp [binT, intBin]
omit [Orc] in
theorem binT_and {xb k a b} : binT .and xb (.int k a) (.int k b) = some (.int k (k.wrap (BitVec.ofInt k.bits a &&& BitVec.ofInt k.bits b).toNat)) := by simp [binT, intBin]
omit [Orc] in
theorem binT_or {xb k a b} : binT .or xb (.int k a) (.int k b) = some (.int k (k.wrap (BitVec.ofInt k.bits a ||| BitVec.ofInt k.bits b).toNat)) := by simp [binT, intBin]
omit [Orc] in
theorem binT_xor {xb k a b} : binT .xor xb (.int k a) (.int k b) = some (.int k (k.wrap (BitVec.ofInt k.bits a ^^^ BitVec.ofInt k.bits b).toNat)) := by simp [binT, intBin]
omit [Orc] in
theorem binT_andNot {xb k a b} : binT .andNot xb (.int k a) (.int k b) = some (.int k (k.wrap (BitVec.ofInt k.bits a &&& ~~~ BitVec.ofInt k.bits b).toNat)) := by simp [binT, intBin]
omit [Orc] in
theorem binT_eql {xb k a b} : binT .eql xb (.int k a) (.int k b) = some (.bool (decide (a = b))) := by simp [binT, intBin]; rfl
omit [Orc] in
theorem binT_neq {xb k a b} : binT .neq xb (.int k a) (.int k b) = some (.bool (!decide (a = b))) := by simp [binT, intBin]; rfl
omit [Orc] in
theorem binT_lss {xb k a b} : binT .lss xb (.int k a) (.int k b) = some (.bool (decide (a < b))) := by simp [binT, intBin]
omit [Orc] in
theorem binT_leq {xb k a b} : binT .leq xb (.int k a) (.int k b) = some (.bool (decide (a ≤ b))) := by simp [binT, intBin]
omit [Orc] in
theorem binT_gtr {xb k a b} : binT .gtr xb (.int k a) (.int k b) = some (.bool (decide (b < a))) := by simp [binT, intBin]
omit [Orc] in
theorem binT_geq {xb k a b} : binT .geq xb (.int k a) (.int k b) = some (.bool (decide (b ≤ a))) := by simp [binT, intBin]
omit [Orc] in
theorem binT_eqb {a b} : binT .eql .bool (.bool a) (.bool b) = some (.bool (a == b)) := rfl
omit [Orc] in
theorem binT_neb {a b} : binT .neq .bool (.bool a) (.bool b) = some (.bool (!(a == b))) := rfl
omit [Orc] in
theorem binT_str (op xb a b) : binT op xb (.str a) (.str b) = strBin op a b := rfl
def yAt (e : Env) : Option Tmp → Option (Option Bool)
  | some t => yof (e t)
  | none => none
omit [Orc] in
theorem yAt_some (e t) : yAt e (some t) = yof (e t) := rfl
omit [Orc] in
theorem Y_def (l : List Oper) (r e j) : @Y ⟨List.toArray l, r⟩ e j = yAt e (dstAt l j) := by
  show (dstAt l j).bind _ = _
  cases dstAt l j <;> rfl
omit [Orc] in
theorem dstAt_0 (o r) : dstAt (o :: r) 0 = o.dst := rfl
omit [Orc] in
theorem dstAt_s (o r j) : dstAt (o :: r) (j + 1) = dstAt r j := rfl
omit [Orc] in
theorem yof_b (b) : yof (.t (.bool b)) = some (some b) := rfl
omit [Orc] in
theorem yof_d : yof .dead = some none := rfl
omit [Orc] in
theorem enter_at (args : List V) (t) : enter args t = (args[t]?).getD .dead := rfl
omit [Orc] in
theorem beq_tt (b : Bool) : (some b == some true) = b := by cases b <;> rfl
omit [Orc] in
theorem beq_ff (b : Bool) : (some b == some false) = !b := by cases b <;> rfl
omit [Orc] in
theorem beq_nn (b : Bool) : ((none : Option Bool) == some b) = false := rfl
omit [Orc] in
theorem ret_def (v H) : ret v H = some ⟨v, H, .none⟩ := rfl
attribute [go_sem ↓] dstAt_0 dstAt_s
attribute [go_sem] exportB_true exportB_false exportD_t exportD_ex exportD_ref exportD_agg exportD_tup List.map_cons List.map_nil exportV_tup exportV_t exportV_ex exps_nil exps_t exps_ex resVs_nil resVs_tmp resVs_cell one_1 one_2 okX_n okX_ret lenT_sl lenT_ex lenT_str lenT_ref
  r_len r_makeSlice r_convert r_append binT_sub binT_quo binT_rem binT_lss binT_leq binT_gtr binT_geq binT_str binT_eqb binT_neb Y_def yAt_some yof_b yof_d enter_at beq_tt beq_ff beq_nn ret_def unT strBin
  decide_true decide_false ge_iff_le gt_iff_lt Bool.not_true Bool.not_false List.map_cons List.map_nil List.getElem?_cons_succ List.getElem?_cons_zero List.getElem?_nil Option.getD_some Option.getD_none
  true_and and_true e_fun elemSz Option.isSome_some

end Go.Sim

namespace Go.Sim
variable [Orc]

def Nxt {σ : Type} (I : σ → Env → Heap → Prop) (μ : σ → Nat) (s : σ) (e : Env) (H : Heap) : Prop := ∃ s', μ s' < μ s ∧ I s' e H

theorem loop_inv {P : Program} {b : Code} {Q : Kx} {σ : Type} (I : σ → Env → Heap → Prop) (μ : σ → Nat)
    (h : ∀ s e H, I s e H → @C _ P ⟨b⟩ e H ⟨thenX (Nxt I μ s) Q.k⟩) (s : σ) (e : Env) (H : Heap) (h0 : I s e H) : @C _ P ⟨.loop b⟩ e H Q := by
  suffices ∀ n s e H, μ s < n → I s e H → @C _ P ⟨.loop b⟩ e H Q from this (μ s + 1) s e H (Nat.lt_succ_self _) h0
  intro n
  induction n with
  | zero => intro s e H hn; omega
  | succ n ih =>
    intro s e H hn hI
    show CW P (.loop b) e H Q.k
    rw [CW_loop]
    refine CW.mono (h s e H hI) ?_
    intro x e' H' hx
    cases x with
    | n => obtain ⟨s', h1, h2⟩ := hx; exact ih s' e' H' (by omega) h2
    | exit id => exact hx
    | ret => exact hx

theorem C_mono {P : Program} {c : Code} {e : Env} {H : Heap} {Q Q' : Kx} (h : @C _ P ⟨c⟩ e H Q) (hq : ∀ x e H, Q.k x e H → Q'.k x e H) : @C _ P ⟨c⟩ e H Q' := CW.mono h hq

omit [Orc] in
theorem wrap_i64 {n : Int} (h0 : -9223372036854775808 ≤ n) (h1 : n ≤ 9223372036854775807) : IntKind.i64.wrap n = n := by
  unfold IntKind.wrap; simp [IntKind.bits, IntKind.signed]; omega
omit [Orc] in
theorem wrap_u64 {n : Int} (h0 : 0 ≤ n) (h1 : n ≤ 18446744073709551615) : IntKind.u64.wrap n = n := by
  unfold IntKind.wrap; simp [IntKind.bits, IntKind.signed]; omega
omit [Orc] in
theorem wrap_u32 {n : Int} (h0 : 0 ≤ n) (h1 : n ≤ 4294967295) : IntKind.u32.wrap n = n := by
  unfold IntKind.wrap; simp [IntKind.bits, IntKind.signed]; omega

omit [Orc] in
theorem make_ok {P : Program} {H : Heap} {e sz by_ n : Nat} {z : V} (hi : infoOf P e = some (sz, by_)) (hz : zeroV P e = some z) (h1 : z.cells.length = sz) (h2 : z.storable = true) (h3 : 0 < sz) (h4 : 0 < by_) (hn : n * by_ ≤ 70368744177664) :
    makeV P H (.sl e) (n : Int) (n : Int) = some ⟨.ref H.length n, H ++ [⟨List.replicate n z, sz, false⟩], .none⟩ := by
  simp only [makeV, hi, hz, Option.bind_some]
  rw [if_pos ⟨by omega, by omega, by simpa [roomOk] using hn, h1, h2, h3, h4⟩]
  simp
omit [Orc] in
theorem lit_nil {P : Program} {e : Env} {H : Heap} {t el sz by_ : Nat} {z : V} {z' : T} (hk : kdOf P t = .sl el) (hi : infoOf P el = some (sz, by_)) (hz : zeroV P el = some z) (hz' : toT H depth z = some z') (h1 : z'.cells.length = sz) (h3 : 0 < sz) (h4 : 0 < by_) :
    opRun P (.buildSlice t 0 #[]) e H = some ⟨.ex [], H, .none⟩ := by
  show (match kdOf P t with | .sl el => _ | _ => none) = _
  rw [hk]
  simp only [show nilL 0 (#[] : Array (Nat × Operand)).toList = false from rfl, Bool.false_and, Bool.false_eq_true, if_false, show liveOf P el 0 (#[] : Array (Nat × Operand)).toList (evParts e (#[] : Array (Nat × Operand)).toList) = none from rfl, litR, evParts, hi, hz, Option.bind_some, hz']
  rw [if_pos ⟨by omega, h1, h3, h4, rfl⟩]
  rfl
omit [Orc] in
@[go_sem] theorem cellsV_int (k n) : (V.t (.int k n)).cells = [V.t (.int k n)] := rfl
omit [Orc] in
@[go_sem] theorem cellsV_bool (k) : (V.t (.bool k)).cells = [V.t (.bool k)] := rfl
omit [Orc] in
@[go_sem] theorem cellsV_str (k) : (V.t (.str k)).cells = [V.t (.str k)] := rfl
omit [Orc] in
@[go_sem] theorem cellsV_sl (k) : (V.t (.sl k)).cells = [V.t (.sl k)] := rfl
omit [Orc] in
@[go_sem] theorem cellsV_ex (k) : (V.ex k).cells = [V.ex k] := rfl
omit [Orc] in
@[go_sem] theorem cellsV_ref (k n) : (V.ref k n).cells = [V.ref k n] := rfl
omit [Orc] in
@[go_sem] theorem cellsT_int (k n) : (T.int k n).cells = [T.int k n] := rfl
omit [Orc] in
@[go_sem] theorem cellsT_bool (k) : (T.bool k).cells = [T.bool k] := rfl
omit [Orc] in
@[go_sem] theorem cellsT_str (k) : (T.str k).cells = [T.str k] := rfl
omit [Orc] in
@[go_sem] theorem cellsT_sl (k) : (T.sl k).cells = [T.sl k] := rfl
omit [Orc] in
@[go_sem] theorem cellsT_agg (k) : (T.agg k).cells = k := rfl
omit [Orc] in
@[go_sem] theorem stor_int (k n) : (V.t (.int k n)).storable = true := rfl
omit [Orc] in
@[go_sem] theorem stor_bool (k) : (V.t (.bool k)).storable = true := rfl
omit [Orc] in
@[go_sem] theorem stor_str (k) : (V.t (.str k)).storable = true := rfl
omit [Orc] in
@[go_sem] theorem stor_sl (k) : (V.t (.sl k)).storable = true := rfl
omit [Orc] in
@[go_sem] theorem stor_ex (k) : (V.ex k).storable = true := rfl
omit [Orc] in
@[go_sem] theorem stor_ref (k n) : (V.ref k n).storable = true := rfl

omit [Orc] in
theorem load_ref {H : Heap} {id n i : Nat} {o : Obj} {v : V} (h : H[id]? = some o) (hn : o.el.length = n) (hi : o.el[i]? = some v) (hv : v.cells = [v]) :
    loadV H (some (false, 1)) (.ptr id n i 0) = some ⟨v, H, .load id⟩ := by
  simp [loadV, cur, h, hn, hi, rdV, hv]
omit [Orc] in
theorem load_tp {H : Heap} {xs : List T} {i : Nat} {x : T} (hi : xs[i]? = some x) (hx : x.cells = [x]) (hx' : (V.t x).cells = [V.t x]) :
    loadV H (some (false, 1)) (.tp xs i 0) = some ⟨.t x, H, .none⟩ := by
  simp [loadV, hi, rdV, hx']
omit [Orc] in
theorem store_ref {H : Heap} {id n i : Nat} {o : Obj} {v u : V} (h : H[id]? = some o) (hn : o.el.length = n) (hi : o.el[i]? = some v) (he : o.esz = 1) (hs : o.st = false) (hu : u.cells = [u]) (hu' : u.storable = true) :
    storeV H (some (false, 1)) (.ptr id n i 0) u = some ⟨.dead, H.set id { o with el := o.el.set i u }, .grow id⟩ := by
  simp [storeV, cur, h, hn, hi, he, hs, hu, hu', wrV]
omit [Orc] in
theorem ix_sl {H : Heap} {e sz : Nat} {xs : List T} {i : Nat} {x : T} (h : xs[i]? = some x) (h1 : x.cells.length = sz) (hp : 0 < sz) : indexV H (.sl e) sz (.t (.sl xs)) (i : Int) = some (.tp xs i 0) := by
  simp [indexV, h, h1, hp]
omit [Orc] in
theorem ix_ex {H : Heap} {e sz : Nat} {xs : List T} {i : Nat} {x : T} (h : xs[i]? = some x) (h1 : x.cells.length = sz) (hp : 0 < sz) : indexV H (.sl e) sz (.ex xs) (i : Int) = some (.tp xs i 0) := by
  simp [indexV, h, h1, hp]
omit [Orc] in
theorem ix_ref {H : Heap} {e sz id n : Nat} {o : Obj} {i : Nat} (h : H[id]? = some o) (hn : o.el.length = n) (h1 : i < n) (hs : o.esz = sz) (hp : 0 < sz) : indexV H (.sl e) sz (.ref id n) (i : Int) = some (.ptr id n i 0) := by
  have : (i : Int) < n := by omega
  simp [indexV, cur, h, hn, h1, hs, hp]

end Go.Sim
namespace Go.Sim
variable [Orc]
theorem loop_up {P : Program} {b : Code} {Q : Kx} {n : Nat} (I : Nat → Env → Heap → Prop)
    (h : ∀ i e H, i ≤ n → I i e H → @C _ P ⟨b⟩ e H ⟨thenX (fun e' H' => i < n ∧ I (i + 1) e' H') Q.k⟩) (e : Env) (H : Heap) (h0 : I 0 e H) : @C _ P ⟨.loop b⟩ e H Q := by
  refine loop_inv (fun i e H => i ≤ n ∧ I i e H) (fun i => n - i) ?_ 0 e H ⟨Nat.zero_le _, h0⟩
  rintro i e H ⟨hi, hI⟩
  refine CW.mono (h i e H hi hI) ?_
  intro x e' H' hx
  cases x with
  | n => exact ⟨i + 1, by have := hx.1; show n - (i + 1) < n - i; omega, by have := hx.1; omega, hx.2⟩
  | exit id => exact hx
  | ret => exact hx
end Go.Sim
namespace Go.Sim
variable [Orc]
theorem e_loop {P : Program} {b : Code} {e : Env} {H : Heap} {Q : Kx} : @C _ P ⟨.loop b⟩ e H Q = @C _ P ⟨b⟩ e H ⟨thenX (fun e' H' => @C _ P ⟨.loop b⟩ e' H' Q) Q.k⟩ := propext CW_loop
end Go.Sim

namespace Go.Sim
variable [Orc]

class Enc (α : Type) where
  enc : α → T
  dflt : α
  sz : Nat
  pos : 0 < sz
  cells : ∀ a, (enc a).cells.length = sz
open Enc (enc)

abbrev U32 := BitVec 32

instance : Enc Int := ⟨fun n => .int .i64 n, 0, 1, by decide, fun _ => rfl⟩
instance : Enc U32 := ⟨fun n => .int .u32 n.toNat, 0#32, 1, by decide, fun _ => rfl⟩
instance : Enc Bool := ⟨fun b => .bool b, false, 1, by decide, fun _ => rfl⟩
instance : Enc ByteArray := ⟨fun b => .str b, ByteArray.empty, 1, by decide, fun _ => rfl⟩
instance {α : Type} [Enc α] : Enc (List α) := ⟨fun l => .sl (l.map enc), [], 1, by decide, fun _ => rfl⟩

def gd {α : Type} [Enc α] (l : List α) (i : Nat) : α := l.getD i Enc.dflt
omit [Orc] in
theorem gd_get {α : Type} [Enc α] {l : List α} {i : Nat} (h : i < l.length) : l[i] = gd l i := by simp [gd, h]
omit [Orc] in
theorem gd_opt {α : Type} [Enc α] {l : List α} {i : Nat} (h : i < l.length) : l[i]? = some (gd l i) := by simp [gd, h]
omit [Orc] in
theorem gd_range {α : Type} [Enc α] (f : Nat → α) {n i : Nat} (h : i < n) : gd ((List.range n).map f) i = f i := by simp [gd, h]
omit [Orc] in
theorem gd_map {α β : Type} [Enc α] [Enc β] (f : α → β) {l : List α} {i : Nat} (h : i < l.length) : gd (l.map f) i = f (gd l i) := by simp [gd, h]
omit [Orc] in
theorem gd_app_l {α : Type} [Enc α] {l m : List α} {i : Nat} (h : i < l.length) : gd (l ++ m) i = gd l i := by simp [gd, List.getElem?_append_left h]
omit [Orc] in
theorem gd_app_r {α : Type} [Enc α] {l m : List α} {i : Nat} (h : l.length ≤ i) : gd (l ++ m) i = gd m (i - l.length) := by simp [gd, List.getElem?_append_right h]
omit [Orc] in
theorem gd_rep {α : Type} [Enc α] {a : α} {n i : Nat} (h : i < n) : gd (List.replicate n a) i = a := by simp [gd, h]
omit [Orc] in
theorem gd_set_eq {α : Type} [Enc α] {l : List α} {i : Nat} {a : α} (h : i < l.length) : gd (l.set i a) i = a := by simp [gd, h]
omit [Orc] in
theorem gd_set_ne {α : Type} [Enc α] {l : List α} {i j : Nat} {a : α} (h : i ≠ j) : gd (l.set i a) j = gd l j := by simp [gd, List.getElem?_set_ne h]
omit [Orc] in
theorem gd_mem {α : Type} [Enc α] {l : List α} {i : Nat} (h : i < l.length) : gd l i ∈ l := by rw [← gd_get h]; exact List.getElem_mem h
omit [Orc] in
theorem gd_ext {α : Type} [Enc α] {l m : List α} (h : l.length = m.length) (k : ∀ i, i < l.length → gd l i = gd m i) : l = m := by
  refine List.ext_getElem h fun i h1 h2 => ?_
  rw [gd_get h1, gd_get h2]; exact k i h1
omit [Orc] in
theorem take_gd {α : Type} [Enc α] {l : List α} {i : Nat} (h : i < l.length) : l.take i ++ [gd l i] = l.take (i + 1) := by
  rw [← gd_get h, List.take_succ_eq_append_getElem h]

def fillTo {α : Type} (f : Nat → α) (m : List α) (i : Nat) : List α := (List.range i).map f ++ m.drop i
omit [Orc] in
theorem fill_zero {α : Type} (f : Nat → α) (m : List α) : fillTo f m 0 = m := by simp [fillTo]
omit [Orc] in
theorem fill_all {α : Type} (f : Nat → α) (m : List α) : fillTo f m m.length = (List.range m.length).map f := by simp [fillTo]
omit [Orc] in
theorem fill_len {α : Type} {f : Nat → α} {m : List α} {i : Nat} (h : i ≤ m.length) : (fillTo f m i).length = m.length := by simp [fillTo]; omega
omit [Orc] in
theorem fill_set {α : Type} {f : Nat → α} {m : List α} {i : Nat} (h : i < m.length) : (fillTo f m i).set i (f i) = fillTo f m (i + 1) := by
  unfold fillTo
  rw [List.set_append_right _ _ (by simp), List.range_succ, List.map_append, List.append_assoc]
  congr 1
  simp only [List.length_map, List.length_range, Nat.sub_self, List.map_cons, List.map_nil, List.singleton_append]
  rw [List.drop_eq_getElem_cons h, List.set_cons_zero]
omit [Orc] in
theorem fill_lt {α : Type} [Enc α] {f : Nat → α} {m : List α} {i j : Nat} (h : j < i) : gd (fillTo f m i) j = f j := by
  unfold fillTo; rw [gd_app_l (by simpa using h), gd_range _ h]
omit [Orc] in
theorem fill_ge {α : Type} [Enc α] {f : Nat → α} {m : List α} {i j : Nat} (h : i ≤ j) : gd (fillTo f m i) j = gd m j := by
  unfold fillTo; rw [gd_app_r (by simpa using h)]; simp [gd]; congr 1; congr 1; omega

def vs {α : Type} [Enc α] (l : List α) : List V := l.map fun a => .t (enc a)

omit [Orc] in
theorem tolen {α : Type} {l : List α} {i : Int} (h0 : 0 ≤ i) (h1 : i < l.length) : i.toNat < l.length := by omega

section
variable {α : Type} [Enc α]
omit [Orc] in
@[go_sem] theorem enc_int (n : Int) : enc n = .int .i64 n := rfl
omit [Orc] in
@[go_sem] theorem enc_u32 (n : U32) : enc n = .int .u32 n.toNat := rfl
omit [Orc] in
@[go_sem] theorem enc_bool (b : Bool) : enc b = .bool b := rfl
omit [Orc] in
@[go_sem] theorem enc_str (b : ByteArray) : enc b = .str b := rfl
omit [Orc] in
theorem enc_list (l : List α) : enc l = .sl (l.map enc) := rfl
omit [Orc] in
@[go_sem] theorem sl_enc (l : List α) : T.sl (l.map enc) = enc l := rfl
omit [Orc] in
@[go_sem] theorem vs_len (l : List α) : (vs l).length = l.length := by simp [vs]
omit [Orc] in
@[go_sem] theorem vs_nil : vs ([] : List α) = [] := rfl
omit [Orc] in
@[go_sem] theorem map_t_enc (l : List α) : (l.map enc).map V.t = vs l := by simp [vs]
omit [Orc] in
@[go_sem] theorem vs_app (l m : List α) : vs l ++ vs m = vs (l ++ m) := by simp [vs]
omit [Orc] in
theorem vs_get (l : List α) (i : Nat) (h : i < l.length) : (vs l)[i]? = some (.t (enc (gd l i))) := by simp [vs, gd, h]
omit [Orc] in
theorem vs_set (l : List α) (i : Nat) (a : α) : (vs l).set i (.t (enc a)) = vs (l.set i a) := by simp [vs, List.map_set]
omit [Orc] in
theorem vs_rep (n : Nat) (a : α) : List.replicate n (V.t (enc a)) = vs (List.replicate n a) := by simp [vs]
omit [Orc] in
theorem vs_mapM (H : Heap) (n : Nat) (l : List α) : (vs l).mapM (toT H n) = some (l.map enc) := by
  rw [← map_t_enc, mapM_t]

omit [Orc] in
@[go_sem] theorem lenT_enc (H e) (l : List α) : lenT H (.sl e) (.t (enc l)) = some ⟨.t (.int .i64 l.length), H, .none⟩ := by
  show some _ = _
  simp [enc_list, effL]
omit [Orc] in
@[go_sem] theorem noSl_enc (l : List α) : noSl (.t (enc l)) = false := rfl

omit [Orc] in
theorem ix_enc {H : Heap} {e sz : Nat} {l : List α} {i : Int} (hs : Enc.sz α = sz) (h0 : 0 ≤ i) (h1 : i < l.length) : indexV H (.sl e) sz (.t (enc l)) i = some (.tp (l.map enc) i.toNat 0) := by
  subst hs
  have := Enc.pos (α := α)
  have := tolen h0 h1
  simp [enc_list, indexV, Enc.cells, *]
omit [Orc] in
theorem ix_own {H : Heap} {e sz id n : Nat} {o : Obj} {i : Int} (h : H[id]? = some o) (hn : o.el.length = n) (hs : o.esz = sz) (hp : 0 < sz) (h0 : 0 ≤ i) (h1 : i < n) : indexV H (.sl e) sz (.ref id n) i = some (.ptr id n i.toNat 0) := by
  simp [indexV, cur, h, hn, h0, h1, hs, hp]
end

omit [Orc] in
@[go_sem] theorem add_i64 {xb a b} : binT .add xb (.int .i64 a) (.int .i64 b) = some (.int .i64 (IntKind.i64.wrap (a + b))) := binT_add
omit [Orc] in
@[go_sem] theorem mul_i64 {xb a b} : binT .mul xb (.int .i64 a) (.int .i64 b) = some (.int .i64 (IntKind.i64.wrap (a * b))) := binT_mul
omit [Orc] in
@[go_sem] theorem add_u64 {xb a b} : binT .add xb (.int .u64 a) (.int .u64 b) = some (.int .u64 (IntKind.u64.wrap (a + b))) := binT_add
omit [Orc] in
@[go_sem] theorem mul_u64 {xb a b} : binT .mul xb (.int .u64 a) (.int .u64 b) = some (.int .u64 (IntKind.u64.wrap (a * b))) := binT_mul
omit [Orc] in
@[go_sem] theorem add_u8 {xb a b} : binT .add xb (.int .u8 a) (.int .u8 b) = some (.int .u8 (IntKind.u8.wrap (a + b))) := binT_add
omit [Orc] in
@[go_sem] theorem mul_u8 {xb a b} : binT .mul xb (.int .u8 a) (.int .u8 b) = some (.int .u8 (IntKind.u8.wrap (a * b))) := binT_mul
omit [Orc] in
@[go_sem] theorem add_i32 {xb a b} : binT .add xb (.int .i32 a) (.int .i32 b) = some (.int .i32 (IntKind.i32.wrap (a + b))) := binT_add
omit [Orc] in
@[go_sem] theorem mul_i32 {xb a b} : binT .mul xb (.int .i32 a) (.int .i32 b) = some (.int .i32 (IntKind.i32.wrap (a * b))) := binT_mul
omit [Orc] in
@[go_sem] theorem eql_i64 {xb a b} : binT .eql xb (.int .i64 a) (.int .i64 b) = some (.bool (decide (a = b))) := binT_eql
omit [Orc] in
@[go_sem] theorem neq_i64 {xb a b} : binT .neq xb (.int .i64 a) (.int .i64 b) = some (.bool (!decide (a = b))) := binT_neq
omit [Orc] in
@[go_sem] theorem and_i64 {xb a b} : binT .and xb (.int .i64 a) (.int .i64 b) = some (.int .i64 (IntKind.i64.wrap (BitVec.ofInt IntKind.i64.bits a &&& BitVec.ofInt IntKind.i64.bits b).toNat)) := binT_and
omit [Orc] in
@[go_sem] theorem or_i64 {xb a b} : binT .or xb (.int .i64 a) (.int .i64 b) = some (.int .i64 (IntKind.i64.wrap (BitVec.ofInt IntKind.i64.bits a ||| BitVec.ofInt IntKind.i64.bits b).toNat)) := binT_or
omit [Orc] in
@[go_sem] theorem xor_i64 {xb a b} : binT .xor xb (.int .i64 a) (.int .i64 b) = some (.int .i64 (IntKind.i64.wrap (BitVec.ofInt IntKind.i64.bits a ^^^ BitVec.ofInt IntKind.i64.bits b).toNat)) := binT_xor
omit [Orc] in
@[go_sem] theorem andNot_i64 {xb a b} : binT .andNot xb (.int .i64 a) (.int .i64 b) = some (.int .i64 (IntKind.i64.wrap (BitVec.ofInt IntKind.i64.bits a &&& ~~~ BitVec.ofInt IntKind.i64.bits b).toNat)) := binT_andNot
omit [Orc] in
@[go_sem] theorem shl_i64 {xb k' a b} (h : 0 ≤ b) : binT .shl xb (.int .i64 a) (.int k' b) = some (.int .i64 (IntKind.i64.wrap (a * 2 ^ min b.toNat IntKind.i64.bits))) := binT_shl h
omit [Orc] in
@[go_sem] theorem shr_i64 {xb k' a b} (h : 0 ≤ b) : binT .shr xb (.int .i64 a) (.int k' b) = some (.int .i64 (a.fdiv (2 ^ min b.toNat IntKind.i64.bits))) := binT_shr h
omit [Orc] in
@[go_sem] theorem eql_u64 {xb a b} : binT .eql xb (.int .u64 a) (.int .u64 b) = some (.bool (decide (a = b))) := binT_eql
omit [Orc] in
@[go_sem] theorem neq_u64 {xb a b} : binT .neq xb (.int .u64 a) (.int .u64 b) = some (.bool (!decide (a = b))) := binT_neq
omit [Orc] in
@[go_sem] theorem and_u64 {xb a b} : binT .and xb (.int .u64 a) (.int .u64 b) = some (.int .u64 (IntKind.u64.wrap (BitVec.ofInt IntKind.u64.bits a &&& BitVec.ofInt IntKind.u64.bits b).toNat)) := binT_and
omit [Orc] in
@[go_sem] theorem or_u64 {xb a b} : binT .or xb (.int .u64 a) (.int .u64 b) = some (.int .u64 (IntKind.u64.wrap (BitVec.ofInt IntKind.u64.bits a ||| BitVec.ofInt IntKind.u64.bits b).toNat)) := binT_or
omit [Orc] in
@[go_sem] theorem xor_u64 {xb a b} : binT .xor xb (.int .u64 a) (.int .u64 b) = some (.int .u64 (IntKind.u64.wrap (BitVec.ofInt IntKind.u64.bits a ^^^ BitVec.ofInt IntKind.u64.bits b).toNat)) := binT_xor
omit [Orc] in
@[go_sem] theorem andNot_u64 {xb a b} : binT .andNot xb (.int .u64 a) (.int .u64 b) = some (.int .u64 (IntKind.u64.wrap (BitVec.ofInt IntKind.u64.bits a &&& ~~~ BitVec.ofInt IntKind.u64.bits b).toNat)) := binT_andNot
omit [Orc] in
@[go_sem] theorem shl_u64 {xb k' a b} (h : 0 ≤ b) : binT .shl xb (.int .u64 a) (.int k' b) = some (.int .u64 (IntKind.u64.wrap (a * 2 ^ min b.toNat IntKind.u64.bits))) := binT_shl h
omit [Orc] in
@[go_sem] theorem shr_u64 {xb k' a b} (h : 0 ≤ b) : binT .shr xb (.int .u64 a) (.int k' b) = some (.int .u64 (a.fdiv (2 ^ min b.toNat IntKind.u64.bits))) := binT_shr h
omit [Orc] in
@[go_sem] theorem eql_u8 {xb a b} : binT .eql xb (.int .u8 a) (.int .u8 b) = some (.bool (decide (a = b))) := binT_eql
omit [Orc] in
@[go_sem] theorem neq_u8 {xb a b} : binT .neq xb (.int .u8 a) (.int .u8 b) = some (.bool (!decide (a = b))) := binT_neq
omit [Orc] in
@[go_sem] theorem and_u8 {xb a b} : binT .and xb (.int .u8 a) (.int .u8 b) = some (.int .u8 (IntKind.u8.wrap (BitVec.ofInt IntKind.u8.bits a &&& BitVec.ofInt IntKind.u8.bits b).toNat)) := binT_and
omit [Orc] in
@[go_sem] theorem or_u8 {xb a b} : binT .or xb (.int .u8 a) (.int .u8 b) = some (.int .u8 (IntKind.u8.wrap (BitVec.ofInt IntKind.u8.bits a ||| BitVec.ofInt IntKind.u8.bits b).toNat)) := binT_or
omit [Orc] in
@[go_sem] theorem xor_u8 {xb a b} : binT .xor xb (.int .u8 a) (.int .u8 b) = some (.int .u8 (IntKind.u8.wrap (BitVec.ofInt IntKind.u8.bits a ^^^ BitVec.ofInt IntKind.u8.bits b).toNat)) := binT_xor
omit [Orc] in
@[go_sem] theorem andNot_u8 {xb a b} : binT .andNot xb (.int .u8 a) (.int .u8 b) = some (.int .u8 (IntKind.u8.wrap (BitVec.ofInt IntKind.u8.bits a &&& ~~~ BitVec.ofInt IntKind.u8.bits b).toNat)) := binT_andNot
omit [Orc] in
@[go_sem] theorem shl_u8 {xb k' a b} (h : 0 ≤ b) : binT .shl xb (.int .u8 a) (.int k' b) = some (.int .u8 (IntKind.u8.wrap (a * 2 ^ min b.toNat IntKind.u8.bits))) := binT_shl h
omit [Orc] in
@[go_sem] theorem shr_u8 {xb k' a b} (h : 0 ≤ b) : binT .shr xb (.int .u8 a) (.int k' b) = some (.int .u8 (a.fdiv (2 ^ min b.toNat IntKind.u8.bits))) := binT_shr h
omit [Orc] in
@[go_sem] theorem eql_i32 {xb a b} : binT .eql xb (.int .i32 a) (.int .i32 b) = some (.bool (decide (a = b))) := binT_eql
omit [Orc] in
@[go_sem] theorem neq_i32 {xb a b} : binT .neq xb (.int .i32 a) (.int .i32 b) = some (.bool (!decide (a = b))) := binT_neq
omit [Orc] in
@[go_sem] theorem and_i32 {xb a b} : binT .and xb (.int .i32 a) (.int .i32 b) = some (.int .i32 (IntKind.i32.wrap (BitVec.ofInt IntKind.i32.bits a &&& BitVec.ofInt IntKind.i32.bits b).toNat)) := binT_and
omit [Orc] in
@[go_sem] theorem or_i32 {xb a b} : binT .or xb (.int .i32 a) (.int .i32 b) = some (.int .i32 (IntKind.i32.wrap (BitVec.ofInt IntKind.i32.bits a ||| BitVec.ofInt IntKind.i32.bits b).toNat)) := binT_or
omit [Orc] in
@[go_sem] theorem xor_i32 {xb a b} : binT .xor xb (.int .i32 a) (.int .i32 b) = some (.int .i32 (IntKind.i32.wrap (BitVec.ofInt IntKind.i32.bits a ^^^ BitVec.ofInt IntKind.i32.bits b).toNat)) := binT_xor
omit [Orc] in
@[go_sem] theorem andNot_i32 {xb a b} : binT .andNot xb (.int .i32 a) (.int .i32 b) = some (.int .i32 (IntKind.i32.wrap (BitVec.ofInt IntKind.i32.bits a &&& ~~~ BitVec.ofInt IntKind.i32.bits b).toNat)) := binT_andNot
omit [Orc] in
@[go_sem] theorem shl_i32 {xb k' a b} (h : 0 ≤ b) : binT .shl xb (.int .i32 a) (.int k' b) = some (.int .i32 (IntKind.i32.wrap (a * 2 ^ min b.toNat IntKind.i32.bits))) := binT_shl h
omit [Orc] in
@[go_sem] theorem shr_i32 {xb k' a b} (h : 0 ≤ b) : binT .shr xb (.int .i32 a) (.int k' b) = some (.int .i32 (a.fdiv (2 ^ min b.toNat IntKind.i32.bits))) := binT_shr h
omit [Orc] in
@[go_sem] theorem u64_bits : IntKind.u64.bits = 64 := rfl
attribute [go_sem] Int.reduceToNat Int.reduceAdd Int.reduceSub Int.reduceMul Int.reduceNeg
omit [Orc] in
@[go_sem] theorem wrapB (x : U32) : IntKind.u32.wrap (x.toNat : Int) = x.toNat := wrap_u32 (by omega) (by have := x.isLt; omega)
omit [Orc] in
theorem ofInt_B (x : U32) : BitVec.ofInt 32 (x.toNat : Int) = x := by simp only [BitVec.ofInt_natCast, BitVec.ofNat_toNat, BitVec.setWidth_eq]
omit [Orc] in
@[go_sem] theorem and_B {xb} (x y : U32) : binT .and xb (.int .u32 (x.toNat : Int)) (.int .u32 (y.toNat : Int)) = some (.int .u32 ((x &&& y).toNat : Int)) := by
  rw [binT_and]
  show some (T.int .u32 (IntKind.u32.wrap ((BitVec.ofInt 32 (x.toNat : Int) &&& BitVec.ofInt 32 (y.toNat : Int)).toNat : Int))) = _
  rw [ofInt_B, ofInt_B, wrapB]
omit [Orc] in
@[go_sem] theorem or_B {xb} (x y : U32) : binT .or xb (.int .u32 (x.toNat : Int)) (.int .u32 (y.toNat : Int)) = some (.int .u32 ((x ||| y).toNat : Int)) := by
  rw [binT_or]
  show some (T.int .u32 (IntKind.u32.wrap ((BitVec.ofInt 32 (x.toNat : Int) ||| BitVec.ofInt 32 (y.toNat : Int)).toNat : Int))) = _
  rw [ofInt_B, ofInt_B, wrapB]
omit [Orc] in
@[go_sem] theorem xor_B {xb} (x y : U32) : binT .xor xb (.int .u32 (x.toNat : Int)) (.int .u32 (y.toNat : Int)) = some (.int .u32 ((x ^^^ y).toNat : Int)) := by
  rw [binT_xor]
  show some (T.int .u32 (IntKind.u32.wrap ((BitVec.ofInt 32 (x.toNat : Int) ^^^ BitVec.ofInt 32 (y.toNat : Int)).toNat : Int))) = _
  rw [ofInt_B, ofInt_B, wrapB]
omit [Orc] in
@[go_sem] theorem andNot_B {xb} (x y : U32) : binT .andNot xb (.int .u32 (x.toNat : Int)) (.int .u32 (y.toNat : Int)) = some (.int .u32 ((x &&& ~~~y).toNat : Int)) := by
  rw [binT_andNot]
  show some (T.int .u32 (IntKind.u32.wrap ((BitVec.ofInt 32 (x.toNat : Int) &&& ~~~BitVec.ofInt 32 (y.toNat : Int)).toNat : Int))) = _
  rw [ofInt_B, ofInt_B, wrapB]
omit [Orc] in
@[go_sem] theorem eql_B {xb} (x y : U32) : binT .eql xb (.int .u32 (x.toNat : Int)) (.int .u32 (y.toNat : Int)) = some (.bool (decide (x = y))) := by
  rw [binT_eql]; congr 2; rw [decide_eq_decide]; constructor
  · intro h; exact BitVec.eq_of_toNat_eq (by omega)
  · rintro rfl; rfl
omit [Orc] in
@[go_sem] theorem neq_B {xb} (x y : U32) : binT .neq xb (.int .u32 (x.toNat : Int)) (.int .u32 (y.toNat : Int)) = some (.bool (!decide (x = y))) := by
  rw [binT_neq]; congr 3; rw [decide_eq_decide]; constructor
  · intro h; exact BitVec.eq_of_toNat_eq (by omega)
  · rintro rfl; rfl
omit [Orc] in
@[go_sem] theorem not_B (x : U32) : unT .xor (.int .u32 (x.toNat : Int)) = some (.int .u32 ((~~~x).toNat : Int)) := by
  show some (T.int .u32 (IntKind.u32.wrap ((BitVec.ofInt 32 4294967295 ^^^ BitVec.ofInt 32 (x.toNat : Int)).toNat : Int))) = _
  rw [ofInt_B, wrapB]
  rw [show BitVec.ofInt 32 4294967295 = BitVec.allOnes 32 from by decide, BitVec.allOnes_xor]
omit [Orc] in
theorem shr_B0 (x : U32) (k : Nat) : (x.toNat : Int).fdiv (2 ^ min k 32) = ((x >>> k).toNat : Int) := by
  rw [BitVec.toNat_ushiftRight, Nat.shiftRight_eq_div_pow]
  have e : (2 ^ min k 32 : Int) = ((2 ^ min k 32 : Nat) : Int) := by simp
  rw [e, Int.fdiv_eq_ediv_of_nonneg _ (Int.natCast_nonneg _), ← Int.natCast_ediv]
  rcases Nat.le_total k 32 with h | h
  · rw [Nat.min_eq_left h]
  · rw [Nat.min_eq_right h]
    have hx := x.isLt
    have : 2 ^ 32 ≤ 2 ^ k := Nat.pow_le_pow_right (by omega) h
    rw [Nat.div_eq_of_lt hx, Nat.div_eq_of_lt (by omega)]
omit [Orc] in
theorem shl1_B0 (k : Nat) : IntKind.u32.wrap (1 * 2 ^ min k 32) = (((1#32) <<< k).toNat : Int) := by
  rw [BitVec.toNat_shiftLeft, BitVec.toNat_ofNat, Nat.shiftLeft_eq]
  rcases Nat.lt_or_ge k 32 with h | h
  · rw [Nat.min_eq_left (by omega)]
    have : (2 : Nat) ^ k < 2 ^ 32 := Nat.pow_lt_pow_right (by omega) h
    have e : (1 * 2 ^ k : Int) = ((2 ^ k : Nat) : Int) := by simp
    have h0 : 0 < (2 : Nat) ^ k := Nat.pow_pos (by omega)
    rw [e, wrap_u32 (by omega) (by omega)]
    simp only [show 1 % 2 ^ 32 = 1 from rfl, Nat.one_mul]
    rw [Nat.mod_eq_of_lt (by omega)]
  · rw [Nat.min_eq_right h]
    have : 2 ^ 32 ∣ 2 ^ k := Nat.pow_dvd_pow 2 h
    have e : 1 % 2 ^ 32 * 2 ^ k % 2 ^ 32 = 0 := by
      simp only [show 1 % 2 ^ 32 = 1 from rfl, Nat.one_mul]
      exact Nat.mod_eq_zero_of_dvd this
    rw [e]; rfl
omit [Orc] in
@[go_sem] theorem shr_B {xb k'} {x : U32} {b : Int} (h : 0 ≤ b) : binT .shr xb (.int .u32 (x.toNat : Int)) (.int k' b) = some (.int .u32 ((x >>> b.toNat).toNat : Int)) := by
  rw [binT_shr h]; congr 2; exact shr_B0 x b.toNat
omit [Orc] in
@[go_sem] theorem shl1_B {xb k'} {b : Int} (h : 0 ≤ b) : binT .shl xb (.int .u32 (((1#32 : U32)).toNat : Int)) (.int k' b) = some (.int .u32 (((1#32) <<< b.toNat).toNat : Int)) := by
  rw [binT_shl h]; congr 2; exact shl1_B0 b.toNat
omit [Orc] in
theorem bit_nat (x : U32) (k : Nat) : (x >>> k &&& 1#32).toNat = if x.getLsbD k then 1 else 0 := by
  rw [BitVec.toNat_and, BitVec.toNat_ushiftRight, BitVec.toNat_ofNat, show 1 % 2 ^ 32 = 1 from rfl, Nat.and_one_is_mod]
  have : x.getLsbD k = (x.toNat >>> k).testBit 0 := by rw [Nat.testBit_shiftRight]; rfl
  rw [this, Nat.testBit_zero]
  have := Nat.mod_two_eq_zero_or_one (x.toNat >>> k)
  rcases this with h | h <;> simp [h]
omit [Orc] in
@[go_sem] theorem bit_B (x : U32) (k : Nat) : decide (x >>> k &&& 1#32 = 1#32) = x.getLsbD k := by
  rw [Bool.eq_iff_iff, decide_eq_true_eq]
  constructor
  · intro h
    have := bit_nat x k
    rw [h] at this
    cases hx : x.getLsbD k
    · rw [hx] at this; simp at this
    · rfl
  · intro h
    apply BitVec.eq_of_toNat_eq
    rw [bit_nat, h]; rfl
omit [Orc] in
@[go_sem] theorem bit_B0 (x : U32) (k : Nat) : decide (x >>> k &&& 1#32 = 0#32) = !x.getLsbD k := by
  cases hx : x.getLsbD k
  · simp only [Bool.not_false, decide_eq_true_eq]
    apply BitVec.eq_of_toNat_eq
    rw [bit_nat, hx]; rfl
  · simp only [Bool.not_true, decide_eq_false_iff_not]
    intro h
    have := bit_nat x k
    rw [h, hx] at this; simp at this
omit [Orc] in
@[go_sem] theorem div2_B {xb} (x : U32) : binT .quo xb (.int .u32 (x.toNat : Int)) (.int .u32 (((2#32 : U32)).toNat : Int)) = some (.int .u32 ((x >>> 1).toNat : Int)) := by
  rw [binT_quo (by decide)]
  have e : ((x.toNat : Int).tdiv ((2#32 : U32).toNat : Int)) = ((x >>> 1).toNat : Int) := by
    rw [BitVec.toNat_ushiftRight, Nat.shiftRight_eq_div_pow]
    show (x.toNat : Int).tdiv 2 = _
    rw [Int.tdiv_eq_ediv_of_nonneg (by omega)]; omega
  rw [e, wrapB]
omit [Orc] in
@[go_sem] theorem mod2_B {xb} (x : U32) : binT .rem xb (.int .u32 (x.toNat : Int)) (.int .u32 (((2#32 : U32)).toNat : Int)) = some (.int .u32 ((x &&& 1#32).toNat : Int)) := by
  rw [binT_rem (by decide)]
  have e : ((x.toNat : Int).tmod ((2#32 : U32).toNat : Int)) = ((x &&& 1#32).toNat : Int) := by
    have h2 : (x &&& 1#32).toNat = x.toNat % 2 := by rw [BitVec.toNat_and]; exact Nat.and_one_is_mod _
    rw [h2]
    show (x.toNat : Int).tmod 2 = _
    rw [Int.tmod_eq_emod_of_nonneg (by omega)]; omega
  rw [e]
omit [Orc] in
@[go_sem] theorem mul2_B {xb} (x : U32) : binT .mul xb (.int .u32 (((2#32 : U32)).toNat : Int)) (.int .u32 (x.toNat : Int)) = some (.int .u32 ((x <<< 1).toNat : Int)) := by
  rw [binT_mul]
  congr 2
omit [Orc] in
@[go_sem] theorem add_B {xb} (x y : U32) : binT .add xb (.int .u32 (x.toNat : Int)) (.int .u32 (y.toNat : Int)) = some (.int .u32 ((x + y).toNat : Int)) := by
  rw [binT_add]
  congr 2
omit [Orc] in
theorem add_bit {x : U32} {k : Nat} (h : x.getLsbD k = false) : x + 1#32 <<< k = x ||| 1#32 <<< k := by
  rw [BitVec.add_eq_or_of_and_eq_zero]
  apply BitVec.eq_of_getLsbD_eq
  intro j hj
  rw [BitVec.getLsbD_and, BitVec.getLsbD_shiftLeft]
  by_cases e : j = k
  · subst e; simp [h]
  · by_cases h2 : j < k
    · simp [h2]
    · have : j - k ≠ 0 := by omega
      simp [this]
omit [Orc] in
theorem sel_y {p : Prop} [Decidable p] {K : Pq} (h : p) : @sel (decide p) K = K.p := sel_pos (by simpa using h)
omit [Orc] in
theorem sel_n {p : Prop} [Decidable p] {K : Pq} (h : ¬p) : @sel (decide p) K = K.q := sel_neg (by simpa using h)
omit [Orc] in
theorem sel_ny {p : Prop} [Decidable p] {K : Pq} (h : p) : @sel (!decide p) K = K.q := sel_neg (by simpa using h)
omit [Orc] in
theorem sel_nn {p : Prop} [Decidable p] {K : Pq} (h : ¬p) : @sel (!decide p) K = K.p := sel_pos (by simpa using h)
omit [Orc] in
theorem sel_dec {p : Prop} [Decidable p] {K : Pq} (h1 : p → K.p) (h2 : ¬p → K.q) : @sel (decide p) K := by
  by_cases h : p
  · rw [sel_y h]; exact h1 h
  · rw [sel_n h]; exact h2 h
omit [Orc] in
theorem sel_bool {b : Bool} {K : Pq} (h1 : b = true → K.p) (h2 : b = false → K.q) : @sel b K := by
  cases b
  · exact h2 rfl
  · exact h1 rfl
omit [Orc] in
theorem ite_y {p : Prop} [Decidable p] {α : Type} {a b : α} (h : p) : (if p then a else b) = a := if_pos h
omit [Orc] in
theorem ite_n {p : Prop} [Decidable p] {α : Type} {a b : α} (h : ¬p) : (if p then a else b) = b := if_neg h
omit [Orc] in
theorem min_l {a b : Nat} (h : a ≤ b) : min a b = a := Nat.min_eq_left h


def mk1 (H : Heap) (i : Nat × Nat) (z : V) (l c : Int) : Option Res :=
  if 0 ≤ l ∧ l ≤ c ∧ roomOk c.toNat i.2 = true ∧ z.cells.length = i.1 ∧ z.storable = true ∧ 0 < i.1 ∧ 0 < i.2 then
        some ⟨.ref H.length l.toNat, H ++ [⟨List.replicate l.toNat z, i.1, false⟩], .none⟩ else none
omit [Orc] in
@[go_sem] theorem makeV_mk1 {P : Program} {H : Heap} {e : Nat} {l c : Int} : makeV P H (.sl e) l c = (infoOf P e).bind fun i => (zeroV P e).bind fun z => mk1 H i z l c := rfl
omit [Orc] in
theorem mk1_ok {H : Heap} {by_ : Nat} {l c : Int} {z : V} (h1 : z.cells = [z]) (h2 : z.storable = true) (h4 : 0 < by_) (h0 : 0 ≤ l) (hc : l = c) (hn : l * by_ ≤ 70368744177664) :
    mk1 H (1, by_) z l c = some ⟨.ref H.length l.toNat, H ++ [⟨List.replicate l.toNat z, 1, false⟩], .none⟩ := by
  subst hc
  obtain ⟨n, rfl⟩ := Int.eq_ofNat_of_zero_le h0
  have h5 : roomOk n by_ = true := by simp only [roomOk, decide_eq_true_eq]; omega
  unfold mk1
  rw [if_pos ⟨h0, by omega, by simpa using h5, by simp [h1], h2, by omega, h4⟩]
omit [Orc] in
@[go_sem] theorem mk1_u32 {H : Heap} {by_ : Nat} {l c : Int} (h4 : 0 < by_) (h0 : 0 ≤ l) (hc : l = c) (hn : l * by_ ≤ 70368744177664) :
    mk1 H (1, by_) (.t (.int .u32 0)) l c = some ⟨.ref H.length l.toNat, H ++ [⟨vs (List.replicate l.toNat 0#32), 1, false⟩], .none⟩ := by rw [mk1_ok rfl rfl h4 h0 hc hn, ← vs_rep]; rfl
omit [Orc] in
@[go_sem] theorem mk1_int {H : Heap} {by_ : Nat} {l c : Int} (h4 : 0 < by_) (h0 : 0 ≤ l) (hc : l = c) (hn : l * by_ ≤ 70368744177664) :
    mk1 H (1, by_) (.t (.int .i64 0)) l c = some ⟨.ref H.length l.toNat, H ++ [⟨vs (List.replicate l.toNat (0 : Int)), 1, false⟩], .none⟩ := by rw [mk1_ok rfl rfl h4 h0 hc hn, ← vs_rep]; rfl
omit [Orc] in
@[go_sem] theorem mk1_bool {H : Heap} {by_ : Nat} {l c : Int} (h4 : 0 < by_) (h0 : 0 ≤ l) (hc : l = c) (hn : l * by_ ≤ 70368744177664) :
    mk1 H (1, by_) (.t (.bool false)) l c = some ⟨.ref H.length l.toNat, H ++ [⟨vs (List.replicate l.toNat false), 1, false⟩], .none⟩ := by rw [mk1_ok rfl rfl h4 h0 hc hn, ← vs_rep]; rfl

def lit1 (H : Heap) (len : Nat) (z : V) (i : Nat × Nat) (l : List (Nat × V)) : Option Res :=
  (toT H depth z).bind fun z' =>
        if len * i.1 ≤ 2 ^ 24 ∧ z'.cells.length = i.1 ∧ 0 < i.1 ∧ 0 < i.2 ∧ (l.all fun p => p.2.cells.length == i.1) = true then
          (litV H (List.replicate len z') l).bind fun xs => some ⟨.ex xs, (l.map (·.2)).foldl (hold depth) H, effB (l.map (·.2))⟩ else none
omit [Orc] in
theorem b_slice {P t len parts e H} : opRun P (.buildSlice t len (List.toArray parts)) e H = (match kdOf P t with
    | .sl el => if (nilL len parts && bigEl P el) = true then some ⟨.ref H.length 1, H ++ [⟨[.ex []], 1, false⟩], .none⟩ else
      litR (liveOf P el len parts (evParts e parts)) H ((evParts e parts).bind fun l => (zeroV P el).bind fun z => (infoOf P el).bind fun i => lit1 H len z i l)
    | _ => none) := rfl
omit [Orc] in
@[go_sem] theorem nb_ff (q : Bool) : ((false && q) = true) = False := by simp
omit [Orc] in
@[go_sem] theorem nb_tt : ((true && true) = true) = True := by simp
omit [Orc] in
@[go_sem] theorem nb_tf : ((true && false) = true) = False := by simp
omit [Orc] in
@[go_sem] theorem litR_none {H : Heap} {old : Option Res} : litR none H old = old := rfl
omit [Orc] in
@[go_sem] theorem litR_some {v : V} {H : Heap} {old : Option Res} : litR (some v) H old = some ⟨.ref H.length 1, H ++ [⟨[v], 1, false⟩], .none⟩ := rfl
omit [Orc] in
theorem liveOf_no {P : Program} {el len : Nat} {parts : List (Nat × Operand)} {l : Option (List (Nat × V))} (h : liveL len parts = false) : liveOf P el len parts l = none := by
  unfold liveOf; rw [h]; rfl
omit [Orc] in
@[go_sem] theorem liveOf_nil {P : Program} {el len : Nat} {l : Option (List (Nat × V))} : liveOf P el len [] l = none := liveOf_no rfl
omit [Orc] in
@[go_sem] theorem liveOf_two {P : Program} {el len : Nat} {a b : Nat × Operand} {r : List (Nat × Operand)} {l : Option (List (Nat × V))} : liveOf P el len (a :: b :: r) l = none := liveOf_no (by
  obtain ⟨i, o⟩ := a
  unfold liveL
  split
  · rename_i h; cases h
  · rfl)
omit [Orc] in
@[go_sem] theorem liveOf_tmp {P : Program} {el len i t : Nat} {l : Option (List (Nat × V))} (h : t ≠ 46) : liveOf P el len [(i, .tmp t)] l = none := liveOf_no (by
  unfold liveL
  split
  · rename_i h'; cases h'; exact absurd rfl h
  · rfl)
omit [Orc] in
@[go_sem] theorem liveOf_const {P : Program} {el len i : Nat} {c : Value} {l : Option (List (Nat × V))} : liveOf P el len [(i, .const c)] l = none := liveOf_no (by
  unfold liveL
  split
  · rename_i h'; cases h'
  · rfl)
omit [Orc] in
@[go_sem] theorem liveOf_yes {P : Program} {el : Nat} {l : Option (List (Nat × V))} (h : oneEl P el = true) : liveOf P el 1 [(0, .tmp 46)] l = litP l := by
  unfold liveOf; rw [h]; rfl
omit [Orc] in
@[go_sem] theorem litP_ref {id n : Nat} : litP (some [(0, .ref id n)]) = some (.ref id n) := rfl
omit [Orc] in
@[go_sem] theorem litP_t {x : T} {i : Nat} : litP (some [(i, .t x)]) = none := by
  unfold litP
  split
  · rename_i h; cases h
  · rfl
omit [Orc] in
@[go_sem] theorem litP_ex {x : List T} {i : Nat} : litP (some [(i, .ex x)]) = none := by
  unfold litP
  split
  · rename_i h; cases h
  · rfl
omit [Orc] in
@[go_sem] theorem nilL_nil (n : Nat) : nilL n [] = false := rfl
omit [Orc] in
@[go_sem] theorem nilL_two (n : Nat) (a b : Nat × Operand) (r : List (Nat × Operand)) : nilL n (a :: b :: r) = false := by
  obtain ⟨i, o⟩ := a
  unfold nilL
  split
  · rename_i h; cases h
  · rfl
omit [Orc] in
@[go_sem] theorem nilL_tmp (n i t : Nat) : nilL n [(i, .tmp t)] = false := by
  unfold nilL
  split
  · rename_i h; cases h
  · rfl
omit [Orc] in
@[go_sem] theorem nilL_str (n i : Nat) (s : ByteArray) : nilL n [(i, .const (.string s))] = false := by
  unfold nilL
  split
  · rename_i h; cases h
  · rfl
omit [Orc] in
@[go_sem] theorem nilL_int (n i : Nat) (k : IntKind) (m : Int) : nilL n [(i, .const (.int k m))] = false := by
  unfold nilL
  split
  · rename_i h; cases h
  · rfl
omit [Orc] in
@[go_sem] theorem nilL_bool (n i : Nat) (b : Bool) : nilL n [(i, .const (.bool b))] = false := by
  unfold nilL
  split
  · rename_i h; cases h
  · rfl
omit [Orc] in
@[go_sem] theorem nilL_suc (n i : Nat) (o : Operand) : nilL n [(i + 1, o)] = false := by
  unfold nilL
  split
  · rename_i h; cases h
  · rfl
omit [Orc] in
@[go_sem] theorem nilL_len (n : Nat) (l : List (Nat × Operand)) : nilL (n + 2) l = false := by
  unfold nilL
  split <;> rfl
omit [Orc] in
@[go_sem] theorem nilL_yes : nilL 1 [(0, .const (.slice none 0 0))] = true := rfl
omit [Orc] in
@[go_sem] theorem bigI_1 (b : Nat) : bigI (some (1, b)) = false := rfl
omit [Orc] in
@[go_sem] theorem bigI_6 (b : Nat) : bigI (some (6, b)) = true := rfl
omit [Orc] in
@[go_sem] theorem bigI_7 (b : Nat) : bigI (some (7, b)) = true := rfl
omit [Orc] in
@[go_sem] theorem bigI_2 (b : Nat) : bigI (some (2, b)) = true := rfl
omit [Orc] in
@[go_sem] theorem bigI_3 (b : Nat) : bigI (some (3, b)) = true := rfl
def bigQ (P : Program) : Kd → Option (Nat × Nat) → Option V → Bool
  | .sl e, some (1, _), some _ => bigI (infoOf P e)
  | _, _, _ => false
omit [Orc] in
@[go_sem] theorem bigEl_q {P : Program} {el : Nat} : bigEl P el = bigQ P (kdOf P el) (infoOf P el) (zeroV P el) := rfl
omit [Orc] in
@[go_sem] theorem bigQ_1 {P : Program} {e b : Nat} {v : V} : bigQ P (.sl e) (some (1, b)) (some v) = bigI (infoOf P e) := rfl
attribute [go_sem] b_slice
def allC (n : Nat) : List (Nat × V) → Bool
  | [] => true
  | (_, v) :: r => (v.cells.length == n) && allC n r
omit [Orc] in
theorem allC_eq {n : Nat} {l : List (Nat × V)} : allC n l = l.all fun p => p.2.cells.length == n := by
  induction l with
  | nil => rfl
  | cons p r ih => obtain ⟨i, v⟩ := p; simp only [allC, ih, List.all_cons]
omit [Orc] in
@[go_sem] theorem allC_nil (n) : allC n [] = true := rfl
omit [Orc] in
@[go_sem] theorem allC_cons (n i v r) : allC n ((i, v) :: r) = ((v.cells.length == n) && allC n r) := rfl
def foldH (H : Heap) : List (Nat × V) → Heap
  | [] => H
  | (_, v) :: r => foldH (hold depth H v) r
omit [Orc] in
theorem foldH_eq {l : List (Nat × V)} : ∀ {H : Heap}, foldH H l = (l.map (·.2)).foldl (hold depth) H := by
  induction l with
  | nil => intro H; rfl
  | cons p r ih => obtain ⟨i, v⟩ := p; intro H; simp only [foldH, ih, List.map_cons, List.foldl_cons]
omit [Orc] in
@[go_sem] theorem foldH_nil (H) : foldH H [] = H := rfl
omit [Orc] in
@[go_sem] theorem foldH_cons (H i v r) : foldH H ((i, v) :: r) = foldH (hold depth H v) r := rfl
def effC : List (Nat × V) → Eff
  | [] => .none
  | (_, .t _) :: r | (_, .ex _) :: r => effC r
  | _ => .bad
omit [Orc] in
theorem effC_eq {l : List (Nat × V)} : effC l = effB (l.map (·.2)) := by
  induction l with
  | nil => rfl
  | cons p r ih => obtain ⟨i, v⟩ := p; cases v <;> simp [effC, effB, ih]
omit [Orc] in
@[go_sem] theorem effC_nil : effC [] = .none := rfl
omit [Orc] in
@[go_sem] theorem effC_t (i x r) : effC ((i, .t x) :: r) = effC r := rfl
omit [Orc] in
@[go_sem] theorem effC_ex (i x r) : effC ((i, .ex x) :: r) = effC r := rfl
omit [Orc] in
@[go_sem] theorem effC_ref (i x n r) : effC ((i, .ref x n) :: r) = .bad := rfl
omit [Orc] in
theorem lit1_go {H : Heap} {len : Nat} {z : V} {z' : T} {sz by_ : Nat} {l : List (Nat × V)} (hz : toT H depth z = some z') (hc : z'.cells.length = sz) (h1 : 0 < sz) (h2 : 0 < by_) (h3 : len * sz ≤ 16777216) (h4 : allC sz l = true) :
    lit1 H len z (sz, by_) l = (litV H (List.replicate len z') l).bind fun xs => some ⟨.ex xs, foldH H l, effC l⟩ := by
  unfold lit1
  rw [hz]
  simp only [Option.bind_some]
  rw [if_pos ⟨h3, hc, h1, h2, by rw [← allC_eq]; exact h4⟩, foldH_eq, effC_eq]
omit [Orc] in
@[go_sem] theorem lit_t {H : Heap} {len : Nat} {z : T} {sz by_ : Nat} {l : List (Nat × V)} (hc : z.cells.length = sz) (h1 : 0 < sz) (h2 : 0 < by_) (h3 : len * sz ≤ 16777216) (h4 : allC sz l = true) :
    lit1 H len (.t z) (sz, by_) l = (litV H (List.replicate len z) l).bind fun xs => some ⟨.ex xs, foldH H l, effC l⟩ := lit1_go (toT_t _ _ _) hc h1 h2 h3 h4
omit [Orc] in
@[go_sem] theorem lit_ex {H : Heap} {len : Nat} {z : List T} {by_ : Nat} {l : List (Nat × V)} (h2 : 0 < by_) (h3 : len * 1 ≤ 16777216) (h4 : allC 1 l = true) :
    lit1 H len (.ex z) (1, by_) l = (litV H (List.replicate len (.sl z)) l).bind fun xs => some ⟨.ex xs, foldH H l, effC l⟩ := lit1_go (toT_ex _ _ _) rfl (by omega) h2 h3 h4
omit [Orc] in
@[go_sem] theorem litV_nil (H l) : litV H l [] = some l := rfl
omit [Orc] in
@[go_sem] theorem litV_cons {H : Heap} {l : List T} {i : Nat} {v : V} {r : List (Nat × V)} (h : i < l.length) : litV H l ((i, v) :: r) = (toT H depth v).bind fun x => litV H (l.set i x) r := by simp [litV, h]
attribute [go_sem] Int.natCast_add Int.natCast_one Int.cast_ofNat_Int
attribute [go_sem] List.length_cons List.length_nil List.replicate_succ List.replicate_zero List.set_cons_zero List.set_cons_succ Nat.reduceAdd Nat.reduceSub Nat.reduceMul Nat.reduceLT Nat.reduceLeDiff List.length_set
  BEq.rfl Bool.true_and Bool.and_true Bool.and_self List.length_append List.length_replicate Int.toNat_natCast List.nil_append List.cons_append
end Go.Sim
