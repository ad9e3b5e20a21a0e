/- A part of the proof of a law of module cupola: SimE. It has no conditions of its own. -/
import Derived.Test.YtocehjbdnhmkfaaGreatSimW
import Derived.Attr
set_option linter.all false
/-! The same, so that it is told step by step: what is known is reckoned first; what comes behind lies where simp does not look. -/
namespace Go.Sim

class Kx where
  k : X → Env → Heap → Prop
class Ko where
  k : Env → Heap → Log → Prop
class Kv where
  k : V → Heap → Eff → Prop
class Ka (α : Type) where
  k : α → Prop
class Cd where
  c : Code
class Ops where
  ops : Array Oper
  l : List Oper
class Op1 where
  op : Op
class Pq where
  p : Prop
  q : Prop

def C (P : Program) [c : Cd] (e : Env) (H : Heap) [Q : Kx] : Prop := CW P c.c e H Q.k
def O (P : Program) [o : Ops] (e : Env) (H : Heap) (lg : Log) [Q : Ko] : Prop := OW P o.ops o.l e H lg Q.k
def W (P : Program) [o : Op1] (e : Env) (H : Heap) [K : Kv] : Prop := PW P o.op e H K.k
def F (P : Program) (f : FuncId) (vs : List V) (H : Heap) [K : Kv] : Prop := CaW P f vs H K.k
def bnd {α : Type} (x : Option α) [K : Ka α] : Prop := ∃ a, x = some a ∧ K.k a
def sel (b : Bool) [P : Pq] : Prop := if b = true then P.p else P.q

@[go_sem] theorem bnd_some {α : Type} {a : α} {K : Ka α} : @bnd α (some a) K = K.k a := by simp [bnd]
@[go_sem] theorem bnd_none {α : Type} {K : Ka α} : @bnd α none K = False := by simp [bnd]
theorem bnd_bind {α β : Type} {x : Option α} {f : α → Option β} {K : Ka β} : @bnd β (x.bind f) K = @bnd α x ⟨fun a => @bnd β (f a) K⟩ := by
  cases x <;> simp [bnd]
@[go_sem] theorem sel_true {K : Pq} : @sel true K = K.p := by simp [sel]
@[go_sem] theorem sel_false {K : Pq} : @sel false K = K.q := by simp [sel]
theorem sel_pos {b : Bool} {K : Pq} (h : b = true) : @sel b K = K.p := by simp [sel, h]
theorem sel_neg {b : Bool} {K : Pq} (h : b = false) : @sel b K = K.q := by simp [sel, h]

def Fine (ops : Array Oper) (lg : Log) : Bool := lg.fine (loosePairs ops)
def Eff.plain : Eff → Bool
  | .none | .load _ => true
  | _ => false
def plain (l : Log) : Bool := l.all fun a => a.2.plain
theorem fine_plain {L : List (Option Tmp × Option Tmp)} {l : Log} (h : plain l = true) : l.fine L = true := by
  simp only [plain, List.all_eq_true] at h
  simp only [Log.fine, List.all_eq_true, Bool.and_eq_true]
  intro p _ a ha
  have h1 := h a ha
  refine ⟨?_, fun b hb => ?_⟩
  · revert h1; cases a.2 <;> simp [Eff.plain, Eff.isBad]
  · have h2 := h b hb
    revert h1 h2; cases a.2 <;> cases b.2 <;> simp [Eff.plain, Eff.swaps]
theorem sel_ok {b : Bool} {K : Pq} (h : b = true) (k : K.p) : @sel b K := by rw [sel_pos h]; exact k
@[go_sem ↓] theorem sel_fine {ops : Array Oper} {lg : Log} {K : Pq} (h : plain lg = true) : @sel (Fine ops lg) K = K.p := sel_pos (fine_plain h)
def FineP (ops : Array Oper) (lg : Log) : Prop := Fine ops lg = true
theorem fineP_go {ops : Array Oper} {lg : Log} (h : Fine ops lg = true) : FineP ops lg := h
theorem sel_fineP {ops : Array Oper} {lg : Log} {K : Pq} (h : FineP ops lg) : @sel (Fine ops lg) K = K.p := sel_pos h
@[go_sem] theorem plain_nil : plain [] = true := rfl
@[go_sem] theorem plain_none (l : Log) (d) : plain (l.add d .none) = plain l := rfl
@[go_sem] theorem plain_load (l : Log) (d i) : plain (l.add d (.load i)) = plain l := by simp [plain, Log.add, Eff.plain]

def boolOf : V → Option Bool
  | .t (.bool b) => some b
  | _ => none
def tOf : V → Option T
  | .t x => some x
  | _ => none
theorem tOf_some {v : V} {a : T} : tOf v = some a ↔ v = .t a := by
  cases v <;> simp [tOf]

theorem boolOf_ev {e : Env} {c : Operand} {t : Bool} : (ev e c).bind boolOf = some t ↔ ev e c = some (.t (.bool t)) := by
  cases hc : ev e c with
  | none => simp
  | some v =>
    simp only [Option.bind_some, Option.some.injEq]
    unfold boolOf
    split
    · simp
    · rename_i h; simp only [reduceCtorEq, false_iff]; intro e; exact h t e

def dstAt : List Oper → Nat → Option Tmp
  | [], _ => none
  | o :: _, 0 => o.dst
  | _ :: r, j + 1 => dstAt r j
theorem dstAt_eq : ∀ (l : List Oper) (j : Nat), dstAt l j = (l[j]?).bind (·.dst)
  | [], _ => by simp [dstAt]
  | o :: _, 0 => by simp [dstAt]
  | _ :: r, j + 1 => by simp [dstAt, dstAt_eq r j]
def yof : V → Option (Option Bool)
  | .t (.bool b) => some (some b)
  | .dead => some none
  | _ => none
/-- What a guard asks. -/
def Y [o : Ops] (e : Env) (j : Nat) : Option (Option Bool) := (dstAt o.ops.toList j).bind fun t => yof (e t)
theorem Y_eq {o : Ops} {e : Env} {j : Nat} : @Y o e j = yieldV o.ops e j := by
  unfold Y yieldV
  rw [dstAt_eq, Array.getElem?_toList]
  cases (o.ops[j]?).bind (·.dst) with
  | none => rfl
  | some t => simp only [Option.bind_some]; unfold yof; rfl

@[go_sem ↓] theorem e_seq {P a b e H Q} : @C P ⟨.seq a b⟩ e H Q = @C P ⟨a⟩ e H ⟨thenX (fun e' H' => @C P ⟨b⟩ e' H' Q) Q.k⟩ := propext CW_seq
@[go_sem ↓] theorem e_skip {P e H Q} : @C P ⟨.skip⟩ e H Q = Q.k .n e H := propext CW_skip
@[go_sem ↓] theorem e_exit {P id e H Q} : @C P ⟨.exit id⟩ e H Q = Q.k (.exit id) e H := propext CW_exit
@[go_sem ↓] theorem e_ret {P e H Q} : @C P ⟨.ret⟩ e H Q = Q.k .ret e H := propext CW_ret
@[go_sem ↓] theorem e_block {P id b e H Q} : @C P ⟨.block id b⟩ e H Q = @C P ⟨b⟩ e H ⟨blockX id Q.k⟩ := propext CW_block
@[go_sem ↓] theorem e_region {P id l e H Q} : @C P ⟨.region id (List.toArray l) false⟩ e H Q = @O P ⟨l.toArray, l⟩ e H [] ⟨fun e' H' _ => Q.k .n e' H'⟩ := propext CW_region
@[go_sem ↓] theorem e_draw {P id l e H Q} : @C P ⟨.region id (List.toArray l) true⟩ e H Q = @O P ⟨l.toArray, l⟩ e H [] ⟨fun e' H' lg => @sel (Fine l.toArray lg) ⟨Q.k .n e' H', False⟩⟩ := by
  apply propext
  refine CW_draw.trans ?_
  have : (fun (e' : Env) (H' : Heap) (lg : Log) => lg.fine (loosePairs l.toArray) = true ∧ Q.k .n e' H') = (fun e' H' lg => @sel (Fine l.toArray lg) ⟨Q.k .n e' H', False⟩) := by
    funext e' H' lg; unfold Fine; cases h : lg.fine (loosePairs l.toArray) <;> simp [sel]
  rw [this]; rfl
@[go_sem ↓] theorem e_cond {P c a b e H Q} : @C P ⟨.cond c a b⟩ e H Q = @bnd Bool ((ev e c).bind boolOf) ⟨fun t => @sel t ⟨@C P ⟨a⟩ e H Q, @C P ⟨b⟩ e H Q⟩⟩ := by
  apply propext
  refine CW_cond.trans ?_
  unfold bnd
  simp only [boolOf_ev]
  rfl
@[go_sem ↓] theorem e_nil {P ops e H l Q} : @O P ⟨ops, []⟩ e H l Q = Q.k e H l := propext OW_nil
@[go_sem ↓] theorem e_op {P ops d op ty pos af r e H l Q} : @O P ⟨ops, ⟨some d, op, ty, pos, af, none⟩ :: r⟩ e H l Q = @W P ⟨op⟩ e H ⟨fun v H' f => @O P ⟨ops, r⟩ (put e d v) H' (l.add (some d) f) Q⟩ := by
  apply propext; refine OW_cons.trans ?_; simp [wantedV]; rfl
@[go_sem ↓] theorem e_op0 {P ops op ty pos af r e H l Q} : @O P ⟨ops, ⟨none, op, ty, pos, af, none⟩ :: r⟩ e H l Q = @W P ⟨op⟩ e H ⟨fun _ H' f => @O P ⟨ops, r⟩ e H' (l.add none f) Q⟩ := by
  apply propext; refine OW_cons.trans ?_; simp [wantedV]; rfl
@[go_sem ↓] theorem e_guard {P ops d op ty pos af j w r e H l Q} : @O P ⟨ops, ⟨some d, op, ty, pos, af, some (j, w)⟩ :: r⟩ e H l Q =
    @bnd (Option Bool) (@Y ⟨ops, r⟩ e j) ⟨fun y => @sel (y == some w) ⟨@W P ⟨op⟩ e H ⟨fun v H' f => @O P ⟨ops, r⟩ (put e d v) H' (l.add (some d) f) Q⟩, @O P ⟨ops, r⟩ (put e d .dead) H l Q⟩⟩ := by
  apply propext; refine OW_cons.trans ?_
  rw [Y_eq]
  simp only [wantedV]
  cases yieldV ops e j with
  | none => simp [bnd]
  | some y => simp only [bnd, sel, Option.map_some, Option.some.injEq, exists_eq_left']; rfl

@[go_sem ↓] theorem e_move {P x e H K} : @W P ⟨.move x⟩ e H K = @bnd V (ev e x) ⟨fun v => K.k v H .none⟩ := propext PW_move
@[go_sem ↓] theorem e_assign {P x e H K} : @W P ⟨.assign x⟩ e H K = @bnd V (ev e x) ⟨fun v => K.k v H .none⟩ := propext PW_assign
@[go_sem ↓] theorem e_pick {P c a b e H K} : @W P ⟨.pick c a b⟩ e H K = @bnd Bool ((ev e c).bind boolOf) ⟨fun t => @sel t ⟨@bnd V (ev e a) ⟨fun v => K.k v H .none⟩, @bnd V (ev e b) ⟨fun v => K.k v H .none⟩⟩⟩ := by
  apply propext
  refine PW_pick.trans ?_
  unfold bnd
  simp only [boolOf_ev]
  rfl
@[go_sem ↓] theorem e_load {P t x e H K} : @W P ⟨.load t x⟩ e H K = @bnd Res ((ev e x).bind (loadV H (tyOf P t))) ⟨fun r => K.k r.v r.H r.eff⟩ := by
  apply propext; refine PW_load.trans ?_; rw [bnd_bind]; rfl
@[go_sem ↓] theorem e_store {P t x y e H K} : @W P ⟨.store t x y⟩ e H K = @bnd Res ((ev e x).bind fun v => (ev e y).bind fun u => storeV H (tyOf P t) v u) ⟨fun r => K.k r.v r.H r.eff⟩ := by
  apply propext; refine PW_store.trans ?_
  unfold bnd
  simp only [Option.bind_eq_some_iff]
  constructor
  · rintro ⟨v, h1, u, h2, r, h3, k⟩; exact ⟨r, ⟨v, h1, u, h2, h3⟩, k⟩
  · rintro ⟨r, ⟨v, h1, u, h2, h3⟩, k⟩; exact ⟨v, h1, u, h2, r, h3, k⟩
@[go_sem ↓] theorem e_fieldAddr {P s x f e H K} : @W P ⟨.fieldAddr s x f⟩ e H K = @bnd V ((ev e x).bind fun v => fieldV (fldOf P s f) v) ⟨fun v => K.k v H .none⟩ := by
  apply propext; refine PW_fieldAddr.trans ?_; rw [bnd_bind]; rfl
@[go_sem ↓] theorem e_indexAddr {P t x i e H K} : @W P ⟨.indexAddr t x i⟩ e H K = @bnd V ((ev e x).bind fun v => ((ev e i).bind asInt).bind fun n => indexV H (kdOf P t) (elemSz P (kdOf P t)) v n) ⟨fun v => K.k v H (effP v)⟩ := by
  apply propext; refine PW_indexAddr.trans ?_
  unfold bnd
  simp only [Option.bind_eq_some_iff]
  constructor
  · rintro ⟨v, h1, n, ⟨i', h2, h2'⟩, u, h3, k⟩; exact ⟨u, ⟨v, h1, n, ⟨i', h2, h2'⟩, h3⟩, k⟩
  · rintro ⟨u, ⟨v, h1, n, ⟨i', h2, h2'⟩, h3⟩, k⟩; exact ⟨v, h1, n, ⟨i', h2, h2'⟩, u, h3, k⟩
@[go_sem ↓] theorem e_binOp {P op t x y s e H K} : @W P ⟨.binOp op t x y s⟩ e H K = @bnd T (((ev e x).bind tOf).bind fun a => ((ev e y).bind tOf).bind fun b => binT op (boolT P t) a b) ⟨fun c => K.k (.t c) H .none⟩ := by
  apply propext; refine PW_binOp.trans ?_
  unfold bnd
  simp only [Option.bind_eq_some_iff, tOf_some]
  constructor
  · rintro ⟨a, h1, b, h2, c, h3, k⟩; exact ⟨c, ⟨a, ⟨_, h1, rfl⟩, b, ⟨_, h2, rfl⟩, h3⟩, k⟩
  · rintro ⟨c, ⟨a, ⟨_, h1, rfl⟩, b, ⟨_, h2, rfl⟩, h3⟩, k⟩; exact ⟨a, h1, b, h2, c, h3, k⟩
@[go_sem ↓] theorem e_unOp {P op t x e H K} : @W P ⟨.unOp op t x⟩ e H K = @bnd T (((ev e x).bind tOf).bind fun a => unT op a) ⟨fun c => K.k (.t c) H .none⟩ := by
  apply propext; refine PW_unOp.trans ?_
  unfold bnd
  simp only [Option.bind_eq_some_iff, tOf_some]
  constructor
  · rintro ⟨a, h1, c, h3, k⟩; exact ⟨c, ⟨a, ⟨_, h1, rfl⟩, h3⟩, k⟩
  · rintro ⟨c, ⟨a, ⟨_, h1, rfl⟩, h3⟩, k⟩; exact ⟨a, h1, c, h3, k⟩
/-- All others. -/
theorem e_other {P op e H K} (h : ∀ call, opRunC P call op e H = opRun P op e H) : @W P ⟨op⟩ e H K = @bnd Res (opRun P op e H) ⟨fun r => K.k r.v r.H r.eff⟩ := by
  apply propext; exact PW_op h
@[go_sem ↓] theorem e_convert {P s d x e H K} : @W P ⟨.convert s d x⟩ e H K = @bnd Res (opRun P (.convert s d x) e H) ⟨fun r => K.k r.v r.H r.eff⟩ := e_other fun _ => rfl
@[go_sem ↓] theorem e_box {P t x e H K} : @W P ⟨.box t x⟩ e H K = @bnd Res (opRun P (.box t x) e H) ⟨fun r => K.k r.v r.H r.eff⟩ := e_other fun _ => rfl
@[go_sem ↓] theorem e_alloc {P t e H K} : @W P ⟨.alloc t⟩ e H K = @bnd Res (opRun P (.alloc t) e H) ⟨fun r => K.k r.v r.H r.eff⟩ := e_other fun _ => rfl
@[go_sem ↓] theorem e_build {P t p e H K} : @W P ⟨.build t p⟩ e H K = @bnd Res (opRun P (.build t p) e H) ⟨fun r => K.k r.v r.H r.eff⟩ := e_other fun _ => rfl
@[go_sem ↓] theorem e_buildSlice {P t n p e H K} : @W P ⟨.buildSlice t n p⟩ e H K = @bnd Res (opRun P (.buildSlice t n p) e H) ⟨fun r => K.k r.v r.H r.eff⟩ := e_other fun _ => rfl
@[go_sem ↓] theorem e_makeSlice {P t l c e H K} : @W P ⟨.makeSlice t l c⟩ e H K = @bnd Res (opRun P (.makeSlice t l c) e H) ⟨fun r => K.k r.v r.H r.eff⟩ := e_other fun _ => rfl
@[go_sem ↓] theorem e_makeFunc {P f a b e H K} : @W P ⟨.makeFunc (.func f) a b⟩ e H K = @bnd Res (opRun P (.makeFunc (.func f) a b) e H) ⟨fun r => K.k r.v r.H r.eff⟩ := e_other fun _ => rfl
@[go_sem ↓] theorem e_slice {P t x a b c e H K} : @W P ⟨.slice t x a b c⟩ e H K = @bnd Res (opRun P (.slice t x a b c) e H) ⟨fun r => K.k r.v r.H r.eff⟩ := e_other fun _ => rfl
@[go_sem ↓] theorem e_index {P t x i e H K} : @W P ⟨.index t x i⟩ e H K = @bnd Res (opRun P (.index t x i) e H) ⟨fun r => K.k r.v r.H r.eff⟩ := e_other fun _ => rfl
@[go_sem ↓] theorem e_extract {P x i e H K} : @W P ⟨.extract x i⟩ e H K = @bnd Res (opRun P (.extract x i) e H) ⟨fun r => K.k r.v r.H r.eff⟩ := e_other fun _ => rfl
@[go_sem ↓] theorem e_nilCheck {P x e H K} : @W P ⟨.nilCheck x⟩ e H K = @bnd Res (opRun P (.nilCheck x) e H) ⟨fun r => K.k r.v r.H r.eff⟩ := e_other fun _ => rfl
@[go_sem ↓] theorem e_builtin {P b a t e H K} : @W P ⟨.call { callee := .builtin b, args := a, argTypes := t }⟩ e H K = @bnd Res (opRun P (.call { callee := .builtin b, args := a, argTypes := t }) e H) ⟨fun r => K.k r.v r.H r.eff⟩ := e_other fun _ => rfl
@[go_sem ↓] theorem e_call {P f args t e H K} : @W P ⟨.call { callee := .value f, args := args, argTypes := t }⟩ e H K = @bnd (FuncId × List V) ((ev e f).bind fun v => (evs e args.toList).bind fun vs => fnArgs v vs) ⟨fun p => @F P p.1 p.2 H K⟩ := by
  apply propext; refine PW_call.trans ?_
  unfold bnd
  simp only [Option.bind_eq_some_iff]
  constructor
  · rintro ⟨v, h1, vs, h2, p, h3, k⟩; exact ⟨p, ⟨v, h1, vs, h2, h3⟩, k⟩
  · rintro ⟨p, ⟨v, h1, vs, h2, h3⟩, k⟩; exact ⟨v, h1, vs, h2, p, h3, k⟩

/-- What a function makes of data, told by what is known of it. -/
def Pu (P : Program) (f : FuncId) (ts : List T) [K : Ka V] : Prop := ∃ u, Fun P f ts u ∧ K.k u
theorem Fun.pu {P : Program} {f : FuncId} {ts : List T} {u : V} (h : Fun P f ts u) {K : Ka V} : @Pu P f ts K = K.k u := propext (h.ex K.k)

/-- Values as data. -/
def toTs (H : Heap) : List V → Option (List T)
  | [] => some []
  | v :: r => (toT H depth v).bind fun x => (toTs H r).map (x :: ·)
theorem toTs_eq {H : Heap} : ∀ {vs : List V}, toTs H vs = vs.mapM (toT H depth)
  | [] => rfl
  | v :: r => by
    have ih := toTs_eq (H := H) (vs := r)
    rw [List.mapM_cons, ← ih]
    show ((toT H depth v).bind fun x => (toTs H r).map (x :: ·)) = _
    generalize toTs H r = z
    cases toT H depth v <;> cases z <;> rfl

def kept (u : V) (vs : List V) (H : Heap) : Heap := if noSl u = true then H else vs.foldl (hold depth) H

/-- A call of data. -/
theorem e_fun {P f vs H K} (hd : (toTs H vs).isSome = true) : @F P f vs H K = @bnd (List T) (toTs H vs) ⟨fun ts => @Pu P f ts ⟨fun u => @bnd (V × Heap) (some (importV (kept u vs H) u)) ⟨fun p => K.k p.1 p.2 .none⟩⟩⟩ := by
  cases h : toTs H vs with
  | none => rw [h] at hd; cases hd
  | some ts =>
    rw [bnd_some]
    apply propext
    rw [toTs_eq] at h
    refine (CaW_pure h).trans ?_
    refine exists_congr fun u => and_congr_right fun _ => ?_
    show _ ↔ @bnd (V × Heap) (some (importV (kept u vs H) u)) ⟨fun p => K.k p.1 p.2 .none⟩
    rw [bnd_some]
    rfl

/-- What a call comes to; w: in the heap. -/
def Comes (P : Program) (f : FuncId) (vs : List V) (H : Heap) (u : V) (H' : Heap) (w : Bool) : Prop := ∀ K : Kv, K.k u H' (if w then .wild else .none) → @F P f vs H K
theorem Comes.go {P f vs H u H' w} (h : Comes P f vs H u H' w) {K : Kv} (k : K.k u H' (if w then .wild else .none)) : @F P f vs H K := h K k
theorem Comes.heap {P f vs H u H'} (hn : toTs H vs = none) (h : FunH P f vs H u H') : Comes P f vs H u H' true := by
  intro K k
  obtain ⟨m, hm⟩ := h
  rw [toTs_eq] at hn
  refine ⟨m, ⟨u, H', .wild⟩, ?_, k⟩
  unfold callRun
  rw [hn]
  simp only [hm]
theorem Comes.data {P f vs H ts u} (hd : toTs H vs = some ts) (h : Fun P f ts u) (hs : noSl u = true) : Comes P f vs H u H false := by
  intro K k
  rw [e_fun (by rw [hd]; rfl), hd, bnd_some]
  refine ⟨u, h, ?_⟩
  show @bnd (V × Heap) (some (importV (kept u vs H) u)) ⟨fun p => K.k p.1 p.2 .none⟩
  rw [bnd_some]
  have e1 : kept u vs H = H := by simp [kept, hs]
  have e2 : importV H u = (u, H) := by cases u <;> first | rfl | simp [noSl] at hs
  rw [e1, e2]
  exact k

@[go_sem] theorem put_at (e : Env) (t x v) : put e t v x = if x = t then v else e x := rfl
@[go_sem] theorem ev_tmp (e t) : ev e (.tmp t) = some (e t) := rfl
@[go_sem] theorem ev_const (e v) : ev e (.const v) = ofVal v := rfl
@[go_sem] theorem ev_func (e f) : ev e (.func f) = some (.t (.fn f)) := rfl
@[go_sem] theorem ofVal_bool (b) : ofVal (.bool b) = some (.t (.bool b)) := rfl
theorem ofVal_int (k n) : ofVal (.int k n) = some (.t (.int k n)) := rfl
@[go_sem] theorem ofVal_i64 (n) : ofVal (.int .i64 n) = some (.t (.int .i64 n)) := rfl
@[go_sem] theorem ofVal_u64 (n) : ofVal (.int .u64 n) = some (.t (.int .u64 n)) := rfl
@[go_sem] theorem ofVal_u8 (n) : ofVal (.int .u8 n) = some (.t (.int .u8 n)) := rfl
@[go_sem] theorem ofVal_i32 (n) : ofVal (.int .i32 n) = some (.t (.int .i32 n)) := rfl
@[go_sem] theorem ofVal_u32 {n} (h0 : 0 ≤ n) (h1 : n ≤ 4294967295) : ofVal (.int .u32 n) = some (.t (.int .u32 (((BitVec.ofNat 32 n.toNat).toNat : Nat) : Int))) := by
  have e : ((BitVec.ofNat 32 n.toNat).toNat : Int) = n := by rw [BitVec.toNat_ofNat, Nat.mod_eq_of_lt (by omega)]; omega
  rw [e]; rfl
@[go_sem] theorem ofVal_str (s) : ofVal (.string s) = some (.t (.str s)) := rfl
@[go_sem] theorem ofVal_nil : ofVal (.slice none 0 0) = some (.ex []) := rfl
@[go_sem] theorem ofVal_nilp : ofVal (.pointer none) = some (.t .nilp) := rfl
@[go_sem] theorem ofVal_nilf : ofVal .nilFunc = some (.t .nilf) := rfl
@[go_sem] theorem ofVal_nili : ofVal .nilIface = some (.t .nili) := rfl
@[go_sem] theorem effP_ptr (a b c d) : effP (.ptr a b c d) = .load a := rfl
@[go_sem] theorem effP_tp (a b c) : effP (.tp a b c) = .none := rfl
@[go_sem] theorem boolOf_t (b) : boolOf (.t (.bool b)) = some b := rfl
@[go_sem] theorem tOf_t (x) : tOf (.t x) = some x := rfl
@[go_sem] theorem asInt_t (k n) : asInt (.t (.int k n)) = some n := rfl
attribute [go_sem ↓] thenX_n thenX_exit thenX_ret blockX_n blockX_exit blockX_ret
attribute [go_sem] Option.bind_some Option.map_some if_true if_false Option.bind_none

/-! ### What is reckoned -/
@[go_sem] theorem evs_nil (e) : evs e [] = some [] := rfl
@[go_sem] theorem evs_cons (e x r) : evs e (x :: r) = (ev e x).bind fun v => (evs e r).bind fun vs => some (v :: vs) := by
  conv => lhs; unfold evs
  cases ev e x <;> cases evs e r <;> rfl
@[go_sem] theorem evParts_nil (e) : evParts e [] = some [] := rfl
@[go_sem] theorem evParts_cons (e i x r) : evParts e ((i, x) :: r) = (ev e x).bind fun v => (evParts e r).bind fun vs => some ((i, v) :: vs) := by
  conv => lhs; unfold evParts
  cases ev e x <;> cases evParts e r <;> rfl
@[go_sem] theorem fnArgs_t (f vs) : fnArgs (.t (.fn f)) vs = some (f, vs) := rfl
@[go_sem] theorem fnArgs_fn (f a b vs) : fnArgs (.fn f a b) vs = some (f, a ++ vs ++ b) := rfl
@[go_sem] theorem toT_t (H n x) : toT H n (.t x) = some x := by cases n <;> rfl
@[go_sem] theorem toT_ex (H n xs) : toT H n (.ex xs) = some (.sl xs) := by cases n <;> rfl
@[go_sem] theorem toTs_nil (H) : toTs H [] = some [] := rfl
@[go_sem] theorem toTs_cons (H v r) : toTs H (v :: r) = (toT H depth v).bind fun x => (toTs H r).bind fun xs => some (x :: xs) := by
  conv => lhs; unfold toTs
  cases toT H depth v <;> cases toTs H r <;> rfl
theorem mapM_t (H : Heap) (n : Nat) : ∀ (xs : List T), (xs.map V.t).mapM (toT H n) = some xs
  | [] => rfl
  | x :: xs => by rw [List.map_cons, List.mapM_cons, mapM_t H n xs, toT_t]; rfl
theorem toT_ref {H : Heap} {id n : Nat} {o : Obj} {xs : List T} (h : cur H id n = some o) (he : o.el = xs.map V.t) : toT H depth (.ref id n) = some (.sl xs) := by
  show (match cur H id n with | some o => (o.el.mapM (toT H 3)).map T.sl | none => none) = _
  rw [h]
  simp only [he, mapM_t, Option.map_some]
@[go_sem] theorem noSl_int (k n) : noSl (.t (.int k n)) = true := rfl
@[go_sem] theorem noSl_bool (b) : noSl (.t (.bool b)) = true := rfl
@[go_sem] theorem noSl_str (b) : noSl (.t (.str b)) = true := rfl
@[go_sem] theorem noSl_sl (b) : noSl (.t (.sl b)) = false := rfl
@[go_sem] theorem noSl_fr (a b c) : noSl (.fr a b c) = false := rfl
@[go_sem] theorem noSl_ex (a) : noSl (.ex a) = false := rfl
@[go_sem] theorem importV_t (H x) : importV H (.t x) = (.t x, H) := rfl
@[go_sem] theorem importV_ex (H x) : importV H (.ex x) = (.ex x, H) := rfl
@[go_sem] theorem importV_tup (H x) : importV H (.tup x) = (.tup x, H) := rfl
@[go_sem] theorem importV_fr (H e s xs) : importV H (.fr e s xs) = (.ref H.length xs.length, H ++ [⟨xs.map .t, e, s⟩]) := rfl
@[go_sem] theorem kept_scalar {u : V} {vs : List V} {H : Heap} (h : noSl u = true) : kept u vs H = H := by simp [kept, h]
theorem kept_other {u : V} {vs : List V} {H : Heap} (h : noSl u = false) : kept u vs H = vs.foldl (hold depth) H := by simp [kept, h]
attribute [go_sem] kept_other List.foldl_cons List.foldl_nil
@[go_sem] theorem hold_t (n H x) : hold n H (.t x) = H := by cases n <;> rfl
@[go_sem] theorem hold_ex (n H x) : hold n H (.ex x) = H := by cases n <;> rfl
theorem foldl_hold_t (n : Nat) (H : Heap) (xs : List T) : (xs.map V.t).foldl (hold n) H = H := by
  induction xs generalizing H with
  | nil => rfl
  | cons x xs ih => simp only [List.map_cons, List.foldl_cons, hold_t]; exact ih H
theorem hold_ref {H : Heap} {id n : Nat} {o : Obj} {xs : List T} (h : cur H id n = some o) (he : o.el = xs.map V.t) : hold depth H (.ref id n) = H.set id { o with st := true } := by
  show (match cur H id n with | some o => o.el.foldl (hold 3) (H.set id { o with st := true }) | none => H) = _
  rw [h]
  simp only [he, foldl_hold_t]
theorem cur_some {H : Heap} {id n : Nat} {o : Obj} (h : H[id]? = some o) (hn : o.el.length = n) : cur H id n = some o := by simp [cur, h, hn]
@[go_sem] theorem lenOf_sl (H xs) : lenOf H (.t (.sl xs)) = some xs.length := rfl
@[go_sem] theorem lenOf_ex (H xs) : lenOf H (.ex xs) = some xs.length := rfl
@[go_sem] theorem lenOf_ref (H id n) : lenOf H (.ref id n) = (cur H id n).bind fun _ => some n := by
  show (cur H id n).map (fun _ => n) = _
  cases cur H id n <;> rfl

/-! ### Results -/
def exps (H : Heap) : List V → Option (List V)
  | [] => some []
  | v :: r => (exp1 H v).bind fun u => (exps H r).bind fun us => some (u :: us)
theorem exps_eq {H : Heap} : ∀ {vs : List V}, exps H vs = vs.mapM (exp1 H)
  | [] => rfl
  | v :: r => by
    have ih := exps_eq (H := H) (vs := r)
    rw [List.mapM_cons, ← ih]
    show (exp1 H v).bind (fun u => (exps H r).bind fun us => some (u :: us)) = _
    generalize exps H r = z
    generalize exp1 H v = y
    cases y <;> cases z <;> rfl
theorem exportV_tup (H vs) : exportV H (.tup vs) = (exps H vs).bind fun us => some (.tup us) := by
  rw [exps_eq]
  simp only [exportV]
  generalize (vs.mapM (exp1 H)) = y
  cases y <;> rfl
theorem exportB_true (H v) : exportB true H v = exportV H v := rfl
theorem exportB_false (H v) : exportB false H v = exportD H v := rfl
theorem exportD_t (H x) : exportD H (.t x) = some (.t x) := by simp [exportD, toT_t]
theorem exportD_ex (H x) : exportD H (.ex x) = some (.t (.sl x)) := by simp [exportD, toT_ex]
theorem exportD_ref (H id n) : exportD H (.ref id n) = (toT H depth (.ref id n)).bind fun x => some (.t x) := by simp only [exportD]; cases toT H depth (.ref id n) <;> rfl
theorem exportD_agg (H cs) : exportD H (.agg cs) = (toT H depth (.agg cs)).bind fun x => some (.t x) := by simp only [exportD]; cases toT H depth (.agg cs) <;> rfl
theorem toTs_mapM {H : Heap} : ∀ {vs : List V}, toTs H vs = vs.mapM (toT H depth)
  | [] => rfl
  | v :: r => by
    rw [List.mapM_cons, ← toTs_mapM (vs := r)]
    simp only [toTs_cons]
    cases toT H depth v <;> cases toTs H r <;> rfl
theorem exportD_tup (H vs) : exportD H (.tup vs) = (toTs H vs).bind fun ts => some (.tup (ts.map .t)) := by
  rw [toTs_mapM]; simp only [exportD]; cases (vs.mapM (toT H depth)) <;> rfl
theorem exportV_t (H x) : exportV H (.t x) = some (.t x) := by simp [exportV, toT_t]
theorem exportV_ex (H x) : exportV H (.ex x) = some (.ex x) := rfl
theorem fold_hold_t (d : Nat) (H : Heap) : ∀ xs : List T, (xs.map V.t).foldl (hold d) H = H := by
  intro xs
  induction xs with
  | nil => rfl
  | cons x xs ih => simp only [List.map_cons, List.foldl_cons]; rw [hold_t]; exact ih
theorem exportV_ref {H : Heap} {id n : Nat} {o : Obj} {xs : List T} (h : cur H id n = some o) (he : o.el = xs.map V.t) : exportV H (.ref id n) = some (.fr o.esz o.st xs) := by
  have h1 : H[id]? = some o := by
    unfold cur at h
    split at h
    · rename_i o' h'
      split at h
      · cases h; exact h'
      · cases h
    · cases h
  simp only [exportV, h, he, mapM_t, Option.map_some, fold_hold_t, h1, if_true]
theorem exps_nil (H) : exps H [] = some [] := rfl
theorem exps_t (H x r) : exps H (.t x :: r) = (exps H r).bind fun us => some (.t x :: us) := by simp [exps, exp1, toT_t]
theorem exps_ex (H x r) : exps H (.ex x :: r) = (exps H r).bind fun us => some (.ex x :: us) := by simp [exps, exp1]
theorem exps_ref {H : Heap} {id n : Nat} {xs : List T} (h : toT H depth (.ref id n) = some (.sl xs)) (r) : exps H (.ref id n :: r) = (exps H r).bind fun us => some (.t (.sl xs) :: us) := by
  simp [exps, exp1, h]
theorem resVs_nil (P e H) : resVs P e H [] = some [] := rfl
theorem resVs_tmp (P e H t r) : resVs P e H (.tmp t :: r) = (resVs P e H r).bind fun vs => some (e t :: vs) := by
  simp only [resVs, resV]; cases resVs P e H r <;> rfl
theorem resVs_cell (P e H a t r) : resVs P e H (.cell a t :: r) = (loadV H (tyOf P t) (e a)).bind fun x => (resVs P e H r).bind fun vs => some (x.v :: vs) := by
  simp only [resVs, resV]; cases loadV H (tyOf P t) (e a) <;> cases resVs P e H r <;> rfl
theorem one_1 (v) : one [v] = v := rfl
theorem one_2 (v u r) : one (v :: u :: r) = .tup (v :: u :: r) := rfl

def okX : X → Prop
  | .exit _ => False
  | _ => True
theorem okX_n : okX .n = True := rfl
theorem okX_ret : okX .ret = True := rfl

/-- The way into a function. -/
theorem Fun.go {P : Program} {f : FuncId} {fn : Func} {c : Code} {rs : List ResultVar} {ts : List T} {u : V} (hf : P.funcs[f]? = some fn) (hb : fn.body = some c) (hr : fn.results = rs.toArray) {b : Bool} (hfr : isFresh P f = b) (hk : fnOk drawOk fn = true)
    (h : @C P ⟨c⟩ (enter (ts.map .t)) [] ⟨fun x e H => okX x ∧ (resVs P e H rs).bind (fun vs => exportB b H (one vs)) = some u⟩) : Fun P f ts u := by
  subst hfr
  refine Fun.intro hf hb hk (CW.mono h ?_)
  rintro x e H ⟨hx, h⟩
  rw [Option.bind_eq_some_iff] at h
  rw [hr]
  exact ⟨by cases x <;> simp_all [okX], h⟩

/-- The way into a function, in a heap. -/
theorem FunH.go {P : Program} {f : FuncId} {fn : Func} {c : Code} {rs : List ResultVar} {vs : List V} {H H' : Heap} {u : V} (hf : P.funcs[f]? = some fn) (hb : fn.body = some c) (hr : fn.results = rs.toArray) (hk : fnOk drawOk fn = true)
    (h : @C P ⟨c⟩ (enter vs) H ⟨fun x e H1 => okX x ∧ (resVs P e H1 rs).bind (fun vs => some (one vs, H1)) = some (u, H')⟩) : FunH P f vs H u H' := by
  obtain ⟨k, x, e, H1, h1, hx, h2⟩ := h
  rw [Option.bind_eq_some_iff] at h2
  obtain ⟨us, h3, h4⟩ := h2
  simp only [Option.some.injEq, Prod.mk.injEq] at h4
  obtain ⟨rfl, rfl⟩ := h4
  have hk' : codeRun P (funRun P k) k c (enter vs) H = some (x, e, H1) := h1
  refine ⟨k + 1, ?_⟩
  simp only [funRun, hf, hk, if_true, hb, hk', hr]
  cases x with
  | n => simp [h3]
  | exit id => exact hx.elim
  | ret => simp [h3]

theorem FunH.go' {P : Program} {f : FuncId} {fn : Func} {c : Code} {rs : List ResultVar} {vs : List V} {H : Heap} {u : V} (hf : P.funcs[f]? = some fn) (hb : fn.body = some c) (hr : fn.results = rs.toArray) (hk : fnOk drawOk fn = true)
    (h : @C P ⟨c⟩ (enter vs) H ⟨fun x e H1 => okX x ∧ (resVs P e H1 rs).bind (fun vs => some (one vs)) = some u⟩) : ∃ H', FunH P f vs H u H' := by
  obtain ⟨k, x, e, H1, h1, hx, h2⟩ := h
  rw [Option.bind_eq_some_iff] at h2
  obtain ⟨us, h3, h4⟩ := h2
  simp only [Option.some.injEq] at h4
  exact ⟨H1, FunH.go hf hb hr hk ⟨k, x, e, H1, h1, hx, by rw [h3]; simp [h4]⟩⟩

/-! ### More reckoning -/
theorem boolT_kd (P t) : boolT P t = (match kdOf P t with | .bool => true | _ => false) := rfl
theorem lenT_sl (H e xs) : lenT H (.sl e) (.t (.sl xs)) = some ⟨.t (.int .i64 xs.length), H, .none⟩ := rfl
theorem lenT_ex (H e xs) : lenT H (.sl e) (.ex xs) = some ⟨.t (.int .i64 xs.length), H, .none⟩ := rfl
theorem lenT_str (H s) : lenT H .str (.t (.str s)) = some ⟨.t (.int .i64 s.size), H, .none⟩ := rfl
theorem lenT_ref (H e id n) : lenT H (.sl e) (.ref id n) = (cur H id n).bind fun _ => some ⟨.t (.int .i64 n), H, .load id⟩ := by
  show ((cur H id n).map (fun _ => n)).bind _ = _
  cases cur H id n <;> rfl
theorem r_len (P a t e H) : opRun P (.call { callee := .builtin .len, args := #[a], argTypes := #[t] }) e H = (ev e a).bind fun x => lenT H (kdOf P t) x := by
  simp only [opRun, evs]
  cases ev e a <;> rfl
theorem r_makeSlice (P t l c e H) : opRun P (.makeSlice t l c) e H = ((ev e l).bind asInt).bind fun l => ((ev e c).bind asInt).bind fun c => makeV P H (kdOf P t) l c := by
  simp only [opRun]
  cases ev e l with
  | none => rfl
  | some v => cases v with
    | t x => cases x with
      | int k n => cases ev e c with
        | none => rfl
        | some u => cases u with
          | t y => cases y <;> rfl
          | _ => rfl
      | _ => rfl
    | _ => rfl
theorem r_buildSlice (P t len parts e H) : opRun P (.buildSlice t len (List.toArray parts)) e H = (match kdOf P t with
    | .sl el => (evParts e parts).bind fun l => (zeroV P el).bind fun z => (infoOf P el).bind fun i => (toT H depth z).bind fun z' =>
        if len * i.1 ≤ 2 ^ 24 ∧ z'.cells.length = i.1 ∧ 0 < i.1 ∧ 0 < i.2 ∧ (l.all fun p => p.2.cells.length == i.1) = true then
          (litV H (List.replicate len z') l).bind fun xs => some ⟨.ex xs, (l.map (·.2)).foldl (hold depth) H, effB (l.map (·.2))⟩ else none
    | _ => none) := rfl
theorem r_convert (P s d x e H) : opRun P (.convert s d x) e H = ((ev e x).bind tOf).bind fun x => (match kdOf P s, kdOf P d, x with
    | .int _, .int k, .int _ n => ret (.t (.int k (k.wrap n))) H
    | .str, .str, .str s => ret (.t (.str s)) H
    | _, _, _ => none) := by
  simp only [opRun]
  cases ev e x with
  | none => cases kdOf P s <;> cases kdOf P d <;> rfl
  | some v => cases v with
    | t x => cases kdOf P s <;> cases kdOf P d <;> cases x <;> rfl
    | _ => cases kdOf P s <;> cases kdOf P d <;> rfl
theorem r_box (P t x e H) : opRun P (.box t x) e H = (ev e x).bind fun v => if v.storable = true then some ⟨.ptr H.length 1 0 0, H ++ [⟨[v], v.cells.length, false⟩], .none⟩ else none := by
  simp only [opRun]
  cases ev e x <;> rfl
theorem r_append (P t u s x e H) : opRun P (.call { callee := .builtin .append, args := #[s, x], argTypes := #[t, u] }) e H = (ev e s).bind fun s => (ev e x).bind fun x => (match kdOf P t, kdOf P u with
      | .sl e, .sl _ => (slOf H x).bind fun ys => appendV (rowOf P e) H s ys
      | _, _ => none) := by
  simp only [opRun, evs]
  cases ev e s <;> cases ev e x <;> rfl
theorem binT_int (op xb k a b) : binT op xb (.int k a) (.int k b) = (match op with
    | .shl => if b < 0 then none else some (.int k (k.wrap (a * 2 ^ min b.toNat k.bits)))
    | .shr => if b < 0 then none else some (.int k (a.fdiv (2 ^ min b.toNat k.bits)))
    | op => intBin op k a b) := by
  cases op <;> simp [binT]
theorem binT_shl {xb k k' a b} (h : 0 ≤ b) : binT .shl xb (.int k a) (.int k' b) = some (.int k (k.wrap (a * 2 ^ min b.toNat k.bits))) := by simp [binT]; omega
theorem binT_shr {xb k k' a b} (h : 0 ≤ b) : binT .shr xb (.int k a) (.int k' b) = some (.int k (a.fdiv (2 ^ min b.toNat k.bits))) := by simp [binT]; omega
theorem binT_quo {xb k a b} (h : b ≠ 0) : binT .quo xb (.int k a) (.int k b) = some (.int k (k.wrap (a.tdiv b))) := by simp [binT, intBin, h]
theorem binT_rem {xb k a b} (h : b ≠ 0) : binT .rem xb (.int k a) (.int k b) = some (.int k (a.tmod b)) := by simp [binT, intBin, h]
theorem binT_add {xb k a b} : binT .add xb (.int k a) (.int k b) = some (.int k (k.wrap (a + b))) := by simp [binT, intBin]
theorem binT_sub {xb k a b} : binT .sub xb (.int k a) (.int k b) = some (.int k (k.wrap (a - b))) := by simp [binT, intBin]
theorem binT_mul {xb k a b} : binT .mul xb (.int k a) (.int k b) = some (.int k (k.wrap (a * b))) := by simp [binT, intBin]
theorem binT_and {xb k a b} : binT .and xb (.int k a) (.int k b) = some (.int k (k.wrap (BitVec.ofInt k.bits a &&& BitVec.ofInt k.bits b).toNat)) := by simp [binT, intBin]
theorem binT_or {xb k a b} : binT .or xb (.int k a) (.int k b) = some (.int k (k.wrap (BitVec.ofInt k.bits a ||| BitVec.ofInt k.bits b).toNat)) := by simp [binT, intBin]
theorem binT_xor {xb k a b} : binT .xor xb (.int k a) (.int k b) = some (.int k (k.wrap (BitVec.ofInt k.bits a ^^^ BitVec.ofInt k.bits b).toNat)) := by simp [binT, intBin]
theorem binT_andNot {xb k a b} : binT .andNot xb (.int k a) (.int k b) = some (.int k (k.wrap (BitVec.ofInt k.bits a &&& ~~~ BitVec.ofInt k.bits b).toNat)) := by simp [binT, intBin]
theorem binT_eql {xb k a b} : binT .eql xb (.int k a) (.int k b) = some (.bool (decide (a = b))) := by simp [binT, intBin]; rfl
theorem binT_neq {xb k a b} : binT .neq xb (.int k a) (.int k b) = some (.bool (!decide (a = b))) := by simp [binT, intBin]; rfl
theorem binT_lss {xb k a b} : binT .lss xb (.int k a) (.int k b) = some (.bool (decide (a < b))) := by simp [binT, intBin]
theorem binT_leq {xb k a b} : binT .leq xb (.int k a) (.int k b) = some (.bool (decide (a ≤ b))) := by simp [binT, intBin]
theorem binT_gtr {xb k a b} : binT .gtr xb (.int k a) (.int k b) = some (.bool (decide (b < a))) := by simp [binT, intBin]
theorem binT_geq {xb k a b} : binT .geq xb (.int k a) (.int k b) = some (.bool (decide (b ≤ a))) := by simp [binT, intBin]
theorem binT_eqb {a b} : binT .eql true (.bool a) (.bool b) = some (.bool (a == b)) := rfl
theorem binT_neb {a b} : binT .neq true (.bool a) (.bool b) = some (.bool (!(a == b))) := rfl
theorem binT_str (op xb a b) : binT op xb (.str a) (.str b) = strBin op a b := rfl
def yAt (e : Env) : Option Tmp → Option (Option Bool)
  | some t => yof (e t)
  | none => none
theorem yAt_some (e t) : yAt e (some t) = yof (e t) := rfl
theorem Y_def (l : List Oper) (r e j) : @Y ⟨List.toArray l, r⟩ e j = yAt e (dstAt l j) := by
  show (dstAt l j).bind _ = _
  cases dstAt l j <;> rfl
theorem dstAt_0 (o r) : dstAt (o :: r) 0 = o.dst := rfl
theorem dstAt_s (o r j) : dstAt (o :: r) (j + 1) = dstAt r j := rfl
theorem yof_b (b) : yof (.t (.bool b)) = some (some b) := rfl
theorem yof_d : yof .dead = some none := rfl
theorem enter_at (args : List V) (t) : enter args t = (args[t]?).getD .dead := rfl
theorem beq_tt (b : Bool) : (some b == some true) = b := by cases b <;> rfl
theorem beq_ff (b : Bool) : (some b == some false) = !b := by cases b <;> rfl
theorem beq_nn (b : Bool) : ((none : Option Bool) == some b) = false := rfl
theorem ret_def (v H) : ret v H = some ⟨v, H, .none⟩ := rfl
attribute [go_sem ↓] dstAt_0 dstAt_s
attribute [go_sem] exportB_true exportB_false exportD_t exportD_ex exportD_ref exportD_agg exportD_tup List.map_cons List.map_nil exportV_tup exportV_t exportV_ex exps_nil exps_t exps_ex resVs_nil resVs_tmp resVs_cell one_1 one_2 okX_n okX_ret boolT_kd lenT_sl lenT_ex lenT_str lenT_ref
  r_len r_makeSlice r_convert r_append binT_sub binT_quo binT_rem binT_lss binT_leq binT_gtr binT_geq binT_str binT_eqb binT_neb Y_def yAt_some yof_b yof_d enter_at beq_tt beq_ff beq_nn ret_def unT strBin
  decide_true decide_false ge_iff_le gt_iff_lt Bool.not_true Bool.not_false List.map_cons List.map_nil List.getElem?_cons_succ List.getElem?_cons_zero List.getElem?_nil Option.getD_some Option.getD_none
  true_and and_true e_fun elemSz Option.isSome_some

end Go.Sim
