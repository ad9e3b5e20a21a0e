/- A part of the proof of a law of module cupola: SimW. It has no conditions of its own. -/
import Derived.Test.YtocehjbdnhmkfaaGreatSimDef
set_option linter.all false
namespace Go.Sim

/-! ### More rounds, and deeper calls, tell the same -/

def CallLe (c c' : CallFn) : Prop := ∀ f a H r, c f a H = some r → c' f a H = some r

theorem callRun_mono {P : Program} {c c' : CallFn} (h : CallLe c c') {f : FuncId} {a : List V} {H : Heap} {r : Res} (hr : callRun P c f a H = some r) : callRun P c' f a H = some r := by
  unfold callRun at *
  cases ha : a.mapM (toT H depth) with
  | some ts =>
    simp only [ha] at hr ⊢
    cases hc : c f (ts.map V.t) [] with
    | none => simp [hc] at hr
    | some p => rw [h _ _ _ _ hc]; simpa [hc] using hr
  | none =>
    simp only [ha] at hr ⊢
    cases hc : c f a H with
    | none => simp [hc] at hr
    | some p => rw [h _ _ _ _ hc]; simpa [hc] using hr

theorem opRunC_mono {P : Program} {c c' : CallFn} (h : CallLe c c') {op : Op} {e : Env} {H : Heap} {r : Res} (hr : opRunC P c op e H = some r) : opRunC P c' op e H = some r := by
  unfold opRunC at *
  split at hr
  · rename_i f args _
    cases h1 : ev e f with
    | none => simp [h1] at hr
    | some fv =>
      cases h2 : evs e args.toList with
      | none => cases fv <;> simp [h1, h2] at hr
      | some vs =>
        simp only [h1, h2] at hr ⊢
        split at hr
        · rename_i heq _; simp only [Option.some.injEq] at heq; subst heq; rename_i heq2; simp only [Option.some.injEq] at heq2; subst heq2; exact callRun_mono h hr
        · rename_i heq _; simp only [Option.some.injEq] at heq; subst heq; rename_i heq2; simp only [Option.some.injEq] at heq2; subst heq2; exact callRun_mono h hr
        · simp at hr
  · exact hr

theorem opsRun_mono {P : Program} {c c' : CallFn} (h : CallLe c c') {ops : Array Oper} : ∀ {l : List Oper} {e : Env} {H : Heap} {lg : Log} {r}, opsRun P c ops l e H lg = some r → opsRun P c' ops l e H lg = some r := by
  intro l
  induction l with
  | nil => intro e H lg r hr; exact hr
  | cons o l ih =>
    intro e H lg r hr
    unfold opsRun at hr ⊢
    cases hw : wantedV ops e o with
    | none => simp [hw] at hr
    | some b =>
      cases b with
      | false => simp only [hw] at hr ⊢; exact ih hr
      | true =>
        simp only [hw] at hr ⊢
        cases hc : opRunC P c o.op e H with
        | none => simp [hc] at hr
        | some q => rw [opRunC_mono h hc]; simp only [hc] at hr; exact ih hr

theorem iter_mono {f g : Env → Heap → Out} (h : ∀ e H r, f e H = some r → g e H = some r) : ∀ {m m' : Nat} {e : Env} {H : Heap} {r}, m ≤ m' → iter f m e H = some r → iter g m' e H = some r := by
  intro m
  induction m with
  | zero => intro m' e H r _ hr; simp [iter] at hr
  | succ m ih =>
    intro m' e H r hm hr
    obtain ⟨m', rfl⟩ : ∃ k, m' = k + 1 := ⟨m' - 1, by omega⟩
    unfold iter at hr ⊢
    cases hc : f e H with
    | none => simp [hc] at hr
    | some q =>
      rw [h _ _ _ hc]
      obtain ⟨x, e', H'⟩ := q
      cases x with
      | n => simp only [hc] at hr ⊢; exact ih (by omega) hr
      | exit id => simpa [hc] using hr
      | ret => simpa [hc] using hr

theorem codeRun_mono {P : Program} {c c' : CallFn} (h : CallLe c c') {m m' : Nat} (hm : m ≤ m') : ∀ (code : Code) {e : Env} {H : Heap} {r}, codeRun P c m code e H = some r → codeRun P c' m' code e H = some r := by
  intro code
  induction code with
  | region id ops draw =>
    intro e H r hr
    cases draw with
    | false =>
      simp only [codeRun] at hr ⊢
      cases hc : opsRun P c ops ops.toList e H [] with
      | none => simp [hc] at hr
      | some q => rw [opsRun_mono h hc]; simpa [hc] using hr
    | true =>
      simp only [codeRun] at hr ⊢
      cases hc : opsRun P c ops ops.toList e H [] with
      | none => simp [hc] at hr
      | some q => rw [opsRun_mono h hc]; simpa [hc] using hr
  | seq a b iha ihb =>
    intro e H r hr
    simp only [codeRun] at hr ⊢
    cases hc : codeRun P c m a e H with
    | none => simp [hc] at hr
    | some q =>
      rw [iha hc]
      obtain ⟨x, e', H'⟩ := q
      cases x with
      | n => simp only [hc] at hr ⊢; exact ihb hr
      | exit id => simpa [hc] using hr
      | ret => simpa [hc] using hr
  | cond t a b iha ihb =>
    intro e H r hr
    simp only [codeRun] at hr ⊢
    split at hr
    · exact iha hr
    · exact ihb hr
    · simp at hr
  | block id b ih =>
    intro e H r hr
    simp only [codeRun] at hr ⊢
    cases hc : codeRun P c m b e H with
    | none => simp [hc] at hr
    | some q =>
      rw [ih hc]
      obtain ⟨x, e', H'⟩ := q
      cases x <;> simpa [hc] using hr
  | loop b ih =>
    intro e H r hr
    simp only [codeRun] at hr ⊢
    exact iter_mono (fun e H r hr => ih hr) hm hr
  | rangeFunc => intro e H r hr; simp [codeRun] at hr
  | scope => intro e H r hr; simp [codeRun] at hr
  | goto => intro e H r hr; simp [codeRun] at hr
  | refuse => intro e H r hr; simp [codeRun] at hr
  | _ => intro e H r hr; simpa only [codeRun] using hr

theorem funRun_mono {P : Program} : ∀ {k k' : Nat}, k ≤ k' → CallLe (funRun P k) (funRun P k') := by
  intro k
  induction k with
  | zero => intro k' _ f a H r hr; simp [funRun] at hr
  | succ k ih =>
    intro k' hk f a H r hr
    obtain ⟨k', rfl⟩ : ∃ m, k' = m + 1 := ⟨k' - 1, by omega⟩
    unfold funRun at hr ⊢
    cases hf : P.funcs[f]? with
    | none => simp [hf] at hr
    | some fn =>
      simp only [hf] at hr ⊢
      cases hb : fn.body with
      | none => simp [hb] at hr
      | some c =>
        simp only [hb] at hr ⊢
        cases hc : codeRun P (funRun P k) k c (enter a) H with
        | none => simp [hc] at hr
        | some q => rw [codeRun_mono (ih (by omega)) (by omega) c hc]; simpa [hc] using hr

/-! ### Weakest preconditions -/

def CW (P : Program) (c : Code) (e : Env) (H : Heap) (Q : X → Env → Heap → Prop) : Prop :=
  ∃ k x e' H', codeRun P (funRun P k) k c e H = some (x, e', H') ∧ Q x e' H'

def OW (P : Program) (ops : Array Oper) (l : List Oper) (e : Env) (H : Heap) (lg : Log) (Q : Env → Heap → Log → Prop) : Prop :=
  ∃ k e' H' l', opsRun P (funRun P k) ops l e H lg = some (e', H', l') ∧ Q e' H' l'

def PW (P : Program) (op : Op) (e : Env) (H : Heap) (K : V → Heap → Eff → Prop) : Prop :=
  ∃ k r, opRunC P (funRun P k) op e H = some r ∧ K r.v r.H r.eff

/-- What a function makes of data. -/
def Fun (P : Program) (f : FuncId) (ts : List T) (u : V) : Prop :=
  ∃ k v H, funRun P k f (ts.map .t) [] = some (v, H) ∧ exportB (isFresh P f) H v = some u

/-- What a function makes of values, in a heap. -/
def FunH (P : Program) (f : FuncId) (vs : List V) (H : Heap) (v : V) (H' : Heap) : Prop :=
  ∃ k, funRun P k f vs H = some (v, H')

theorem codeRun_up {P : Program} {k k' : Nat} (h : k ≤ k') {c : Code} {e : Env} {H : Heap} {r} (hr : codeRun P (funRun P k) k c e H = some r) : codeRun P (funRun P k') k' c e H = some r :=
  codeRun_mono (funRun_mono h) h c hr

theorem Fun.det {P : Program} {f : FuncId} {ts : List T} {u u' : V} (h : Fun P f ts u) (h' : Fun P f ts u') : u = u' := by
  obtain ⟨k, v, H, h1, h2⟩ := h
  obtain ⟨k', v', H', h1', h2'⟩ := h'
  have a := funRun_mono (Nat.le_max_left k k') _ _ _ _ h1
  have b := funRun_mono (Nat.le_max_right k k') _ _ _ _ h1'
  rw [a] at b
  simp only [Option.some.injEq, Prod.mk.injEq] at b
  obtain ⟨rfl, rfl⟩ := b
  rw [h2] at h2'
  simpa using h2'

theorem Fun.ex {P : Program} {f : FuncId} {ts : List T} {u : V} (h : Fun P f ts u) (K : V → Prop) : (∃ u, Fun P f ts u ∧ K u) ↔ K u :=
  ⟨fun ⟨u', h', k⟩ => by rw [h.det h']; exact k, fun k => ⟨u, h, k⟩⟩

theorem CW.mono {P : Program} {c : Code} {e : Env} {H : Heap} {Q Q' : X → Env → Heap → Prop} (h : CW P c e H Q) (hq : ∀ x e H, Q x e H → Q' x e H) : CW P c e H Q' :=
  let ⟨k, x, e', H', h1, h2⟩ := h; ⟨k, x, e', H', h1, hq _ _ _ h2⟩

/-- Behind a way out. -/
def thenX (N : Env → Heap → Prop) (Q : X → Env → Heap → Prop) : X → Env → Heap → Prop
  | .n, e, H => N e H
  | x, e, H => Q x e H

def blockX (id : Nat) (Q : X → Env → Heap → Prop) : X → Env → Heap → Prop
  | .exit id', e, H => if id' = id then Q .n e H else Q (.exit id') e H
  | x, e, H => Q x e H

theorem thenX_n (N Q e H) : thenX N Q .n e H = N e H := rfl
theorem thenX_exit (N Q id e H) : thenX N Q (.exit id) e H = Q (.exit id) e H := rfl
theorem thenX_ret (N Q e H) : thenX N Q .ret e H = Q .ret e H := rfl
theorem blockX_n (id Q e H) : blockX id Q .n e H = Q .n e H := rfl
theorem blockX_exit (id Q id' e H) : blockX id Q (.exit id') e H = if id' = id then Q .n e H else Q (.exit id') e H := rfl
theorem blockX_ret (id Q e H) : blockX id Q .ret e H = Q .ret e H := rfl

theorem CW_skip {P e H Q} : CW P .skip e H Q ↔ Q .n e H := by
  constructor
  · rintro ⟨k, x, e', H', h, q⟩; simp [codeRun] at h; obtain ⟨rfl, rfl, rfl⟩ := h; exact q
  · intro q; exact ⟨0, .n, e, H, by simp [codeRun], q⟩
theorem CW_label {P l e H Q} : CW P (.label l) e H Q ↔ Q .n e H := by
  constructor
  · rintro ⟨k, x, e', H', h, q⟩; simp [codeRun] at h; obtain ⟨rfl, rfl, rfl⟩ := h; exact q
  · intro q; exact ⟨0, .n, e, H, by simp [codeRun], q⟩
theorem CW_exit {P id e H Q} : CW P (.exit id) e H Q ↔ Q (.exit id) e H := by
  constructor
  · rintro ⟨k, x, e', H', h, q⟩; simp [codeRun] at h; obtain ⟨rfl, rfl, rfl⟩ := h; exact q
  · intro q; exact ⟨0, .exit id, e, H, by simp [codeRun], q⟩
theorem CW_ret {P e H Q} : CW P .ret e H Q ↔ Q .ret e H := by
  constructor
  · rintro ⟨k, x, e', H', h, q⟩; simp [codeRun] at h; obtain ⟨rfl, rfl, rfl⟩ := h; exact q
  · intro q; exact ⟨0, .ret, e, H, by simp [codeRun], q⟩

theorem CW_seq {P a b e H Q} : CW P (.seq a b) e H Q ↔ CW P a e H (thenX (fun e' H' => CW P b e' H' Q) Q) := by
  constructor
  · rintro ⟨k, x, e', H', h, q⟩
    simp only [codeRun] at h
    cases hc : codeRun P (funRun P k) k a e H with
    | none => simp [hc] at h
    | some r =>
      obtain ⟨y, e1, H1⟩ := r
      refine ⟨k, y, e1, H1, hc, ?_⟩
      cases y with
      | n => simp only [hc] at h; exact ⟨k, x, e', H', h, q⟩
      | exit id => simp [hc] at h; obtain ⟨rfl, rfl, rfl⟩ := h; exact q
      | ret => simp [hc] at h; obtain ⟨rfl, rfl, rfl⟩ := h; exact q
  · rintro ⟨k, y, e1, H1, h, q⟩
    cases y with
    | n =>
      obtain ⟨k', x, e', H', h', q⟩ := q
      refine ⟨max k k', x, e', H', ?_, q⟩
      simp only [codeRun]
      rw [codeRun_up (Nat.le_max_left k k') h]
      exact codeRun_up (Nat.le_max_right k k') h'
    | exit id => exact ⟨k, _, e1, H1, by simp only [codeRun]; rw [h], q⟩
    | ret => exact ⟨k, _, e1, H1, by simp only [codeRun]; rw [h], q⟩

theorem CW_region {P id ops e H Q} : CW P (.region id ops false) e H Q ↔ OW P ops ops.toList e H [] (fun e' H' _ => Q .n e' H') := by
  constructor
  · rintro ⟨k, x, e', H', h, q⟩
    simp only [codeRun] at h
    cases hc : opsRun P (funRun P k) ops ops.toList e H [] with
    | none => simp [hc] at h
    | some r => simp [hc] at h; obtain ⟨rfl, rfl, rfl⟩ := h; exact ⟨k, _, _, _, hc, q⟩
  · rintro ⟨k, e', H', l, h, q⟩
    exact ⟨k, .n, e', H', by simp only [codeRun]; rw [h]; rfl, q⟩

theorem CW_draw {P id ops e H Q} : CW P (.region id ops true) e H Q ↔ OW P ops ops.toList e H [] (fun e' H' l => l.fine (loosePairs ops) = true ∧ Q .n e' H') := by
  constructor
  · rintro ⟨k, x, e', H', h, q⟩
    simp only [codeRun] at h
    cases hc : opsRun P (funRun P k) ops ops.toList e H [] with
    | none => simp [hc] at h
    | some r =>
      simp only [hc] at h
      by_cases hf : r.2.2.fine (loosePairs ops) = true
      · rw [if_pos hf] at h; simp at h; obtain ⟨rfl, rfl, rfl⟩ := h; exact ⟨k, _, _, _, hc, hf, q⟩
      · rw [if_neg hf] at h; simp at h
  · rintro ⟨k, e', H', l, h, hf, q⟩
    exact ⟨k, .n, e', H', by simp only [codeRun]; rw [h]; simp [hf], q⟩

theorem CW_cond {P c a b e H Q} : CW P (.cond c a b) e H Q ↔ ∃ t, ev e c = some (.t (.bool t)) ∧ (if t = true then CW P a e H Q else CW P b e H Q) := by
  constructor
  · rintro ⟨k, x, e', H', h, q⟩
    simp only [codeRun] at h
    split at h
    · rename_i heq; exact ⟨true, heq, by simpa using ⟨k, x, e', H', h, q⟩⟩
    · rename_i heq; exact ⟨false, heq, by simpa using ⟨k, x, e', H', h, q⟩⟩
    · simp at h
  · rintro ⟨t, ht, h⟩
    cases t with
    | true => simp only [if_true] at h; obtain ⟨k, x, e', H', h, q⟩ := h; exact ⟨k, x, e', H', by simp only [codeRun]; rw [ht]; exact h, q⟩
    | false => simp only [Bool.false_eq_true, if_false] at h; obtain ⟨k, x, e', H', h, q⟩ := h; exact ⟨k, x, e', H', by simp only [codeRun]; rw [ht]; exact h, q⟩

theorem CW_block {P id b e H Q} : CW P (.block id b) e H Q ↔ CW P b e H (blockX id Q) := by
  constructor
  · rintro ⟨k, x, e', H', h, q⟩
    simp only [codeRun] at h
    cases hc : codeRun P (funRun P k) k b e H with
    | none => simp [hc] at h
    | some r =>
      obtain ⟨y, e1, H1⟩ := r
      refine ⟨k, y, e1, H1, hc, ?_⟩
      cases y with
      | n => simp [hc] at h; obtain ⟨rfl, rfl, rfl⟩ := h; exact q
      | exit i =>
        simp only [hc] at h
        by_cases hi : i = id
        · rw [if_pos hi] at h; simp at h; obtain ⟨rfl, rfl, rfl⟩ := h; simp only [blockX, if_pos hi]; exact q
        · rw [if_neg hi] at h; simp at h; obtain ⟨rfl, rfl, rfl⟩ := h; simp only [blockX, if_neg hi]; exact q
      | ret => simp [hc] at h; obtain ⟨rfl, rfl, rfl⟩ := h; exact q
  · rintro ⟨k, y, e1, H1, h, q⟩
    cases y with
    | n => exact ⟨k, .n, e1, H1, by simp only [codeRun]; rw [h], q⟩
    | exit i =>
      by_cases hi : i = id
      · simp only [blockX, if_pos hi] at q; exact ⟨k, .n, e1, H1, by simp only [codeRun]; rw [h]; simp [hi], q⟩
      · simp only [blockX, if_neg hi] at q; exact ⟨k, .exit i, e1, H1, by simp only [codeRun]; rw [h]; simp [hi], q⟩
    | ret => exact ⟨k, .ret, e1, H1, by simp only [codeRun]; rw [h], q⟩

theorem CW_loop {P b e H Q} : CW P (.loop b) e H Q ↔ CW P b e H (thenX (fun e' H' => CW P (.loop b) e' H' Q) Q) := by
  constructor
  · rintro ⟨k, x, e', H', h, q⟩
    simp only [codeRun] at h
    cases k with
    | zero => simp [iter] at h
    | succ k =>
      simp only [iter] at h
      cases hc : codeRun P (funRun P (k + 1)) (k + 1) b e H with
      | none => simp [hc] at h
      | some r =>
        obtain ⟨y, e1, H1⟩ := r
        refine ⟨k + 1, y, e1, H1, hc, ?_⟩
        cases y with
        | n => simp only [hc] at h; exact ⟨k + 1, x, e', H', by simp only [codeRun]; exact iter_mono (fun _ _ _ h => h) (Nat.le_succ k) h, q⟩
        | exit id => simp [hc] at h; obtain ⟨rfl, rfl, rfl⟩ := h; exact q
        | ret => simp [hc] at h; obtain ⟨rfl, rfl, rfl⟩ := h; exact q
  · rintro ⟨k, y, e1, H1, h, q⟩
    cases y with
    | n =>
      obtain ⟨k', x, e', H', h', q⟩ := q
      refine ⟨max k k' + 1, x, e', H', ?_, q⟩
      simp only [codeRun] at h' ⊢
      simp only [iter]
      rw [codeRun_up (Nat.le_succ_of_le (Nat.le_max_left k k')) h]
      exact iter_mono (fun e H r hr => codeRun_up (Nat.le_succ_of_le (Nat.le_max_right k k')) hr) (Nat.le_max_right k k') h'
    | exit id => exact ⟨k + 1, _, e1, H1, by simp only [codeRun, iter]; rw [codeRun_up (Nat.le_succ k) h], q⟩
    | ret => exact ⟨k + 1, _, e1, H1, by simp only [codeRun, iter]; rw [codeRun_up (Nat.le_succ k) h], q⟩

theorem OW_nil {P ops e H l Q} : OW P ops [] e H l Q ↔ Q e H l := by
  constructor
  · rintro ⟨k, e', H', l', h, q⟩; simp [opsRun] at h; obtain ⟨rfl, rfl, rfl⟩ := h; exact q
  · intro q; exact ⟨0, e, H, l, by simp [opsRun], q⟩

theorem OW_cons {P ops o r e H l Q} : OW P ops (o :: r) e H l Q ↔
    ∃ w, wantedV ops e o = some w ∧ (if w = true then PW P o.op e H (fun v H' f => OW P ops r (putO e o.dst v) H' (l.add o.dst f) Q) else OW P ops r (putO e o.dst .dead) H l Q) := by
  constructor
  · rintro ⟨k, e', H', l', h, q⟩
    unfold opsRun at h
    cases hw : wantedV ops e o with
    | none => simp [hw] at h
    | some w =>
      refine ⟨w, rfl, ?_⟩
      cases w with
      | false => simp only [hw] at h; simp only [Bool.false_eq_true, if_false]; exact ⟨k, e', H', l', h, q⟩
      | true =>
        simp only [hw] at h; simp only [if_true]
        cases hc : opRunC P (funRun P k) o.op e H with
        | none => simp [hc] at h
        | some p => simp only [hc] at h; exact ⟨k, p, hc, k, e', H', l', h, q⟩
  · rintro ⟨w, hw, h⟩
    cases w with
    | false =>
      simp only [Bool.false_eq_true, if_false] at h
      obtain ⟨k, e', H', l', h, q⟩ := h
      exact ⟨k, e', H', l', by unfold opsRun; rw [hw]; exact h, q⟩
    | true =>
      simp only [if_true] at h
      obtain ⟨k, p, hc, k', e', H', l', h, q⟩ := h
      refine ⟨max k k', e', H', l', ?_, q⟩
      unfold opsRun
      rw [hw, opRunC_mono (funRun_mono (Nat.le_max_left k k')) hc]
      exact opsRun_mono (funRun_mono (Nat.le_max_right k k')) h

/-- An operation that is no call of a function. -/
theorem PW_op {P op e H K} (h : ∀ call, opRunC P call op e H = opRun P op e H) : PW P op e H K ↔ ∃ r, opRun P op e H = some r ∧ K r.v r.H r.eff := by
  constructor
  · rintro ⟨k, r, hr, q⟩; rw [h] at hr; exact ⟨r, hr, q⟩
  · rintro ⟨r, hr, q⟩; exact ⟨0, r, by rw [h]; exact hr, q⟩

theorem ret_ex {v : V} {H : Heap} {K : V → Heap → Eff → Prop} : (∃ r, ret v H = some r ∧ K r.v r.H r.eff) ↔ K v H .none := by
  simp [ret]

theorem bind_ret {x : Option V} {H : Heap} {K : V → Heap → Eff → Prop} : (∃ r, x.bind (ret · H) = some r ∧ K r.v r.H r.eff) ↔ ∃ v, x = some v ∧ K v H .none := by
  cases x <;> simp [ret]

theorem PW_move {P x e H K} : PW P (.move x) e H K ↔ ∃ v, ev e x = some v ∧ K v H .none := by
  rw [PW_op (fun _ => rfl)]; exact bind_ret
theorem PW_assign {P x e H K} : PW P (.assign x) e H K ↔ ∃ v, ev e x = some v ∧ K v H .none := by
  rw [PW_op (fun _ => rfl)]; exact bind_ret
theorem PW_pick {P c a b e H K} : PW P (.pick c a b) e H K ↔ ∃ t, ev e c = some (.t (.bool t)) ∧ (if t = true then ∃ v, ev e a = some v ∧ K v H .none else ∃ v, ev e b = some v ∧ K v H .none) := by
  rw [PW_op (fun _ => rfl)]
  unfold opRun
  constructor
  · rintro ⟨r, hr, k⟩
    dsimp only at hr
    split at hr
    · rename_i h; exact ⟨true, h, by simp only [if_true]; exact bind_ret.1 ⟨r, hr, k⟩⟩
    · rename_i h; exact ⟨false, h, by simp only [Bool.false_eq_true, if_false]; exact bind_ret.1 ⟨r, hr, k⟩⟩
    · simp at hr
  · rintro ⟨t, ht, h⟩
    dsimp only
    rw [ht]
    cases t with
    | true => simp only [if_true] at h; exact bind_ret.2 h
    | false => simp only [Bool.false_eq_true, if_false] at h; exact bind_ret.2 h
theorem PW_load {P t x e H K} : PW P (.load t x) e H K ↔ ∃ v, ev e x = some v ∧ ∃ r, loadV H (tyOf P t) v = some r ∧ K r.v r.H r.eff := by
  rw [PW_op (fun _ => rfl)]
  unfold opRun
  dsimp only
  cases ev e x <;> simp
theorem PW_store {P t x y e H K} : PW P (.store t x y) e H K ↔ ∃ v, ev e x = some v ∧ ∃ u, ev e y = some u ∧ ∃ r, storeV H (tyOf P t) v u = some r ∧ K r.v r.H r.eff := by
  rw [PW_op (fun _ => rfl)]
  unfold opRun
  dsimp only
  cases ev e x <;> cases ev e y <;> simp
theorem PW_fieldAddr {P s x f e H K} : PW P (.fieldAddr s x f) e H K ↔ ∃ v, ev e x = some v ∧ ∃ u, fieldV (fldOf P s f) v = some u ∧ K u H .none := by
  rw [PW_op (fun _ => rfl)]
  unfold opRun
  dsimp only
  cases ev e x <;> simp [bind_ret]
theorem PW_indexAddr {P t x i e H K} : PW P (.indexAddr t x i) e H K ↔ ∃ v, ev e x = some v ∧ ∃ n, (ev e i).bind asInt = some n ∧ ∃ u, indexV H (kdOf P t) (elemSz P (kdOf P t)) v n = some u ∧ K u H (effP u) := by
  rw [PW_op (fun _ => rfl)]
  unfold opRun
  dsimp only
  cases ev e x with
  | none => simp
  | some v =>
    cases (ev e i).bind asInt with
    | none => simp
    | some n => 
      cases hq : indexV H (kdOf P t) (elemSz P (kdOf P t)) v n <;> simp [hq]
theorem PW_binOp {P op t x y s e H K} : PW P (.binOp op t x y s) e H K ↔ ∃ a, ev e x = some (.t a) ∧ ∃ b, ev e y = some (.t b) ∧ ∃ c, binT op (boolT P t) a b = some c ∧ K (.t c) H .none := by
  rw [PW_op (fun _ => rfl)]
  unfold opRun
  dsimp only
  constructor
  · rintro ⟨r, hr, k⟩
    split at hr
    · rename_i a b h1 h2
      cases hc : binT op (boolT P t) a b with
      | none => simp [hc] at hr
      | some c => simp [hc, ret] at hr; subst hr; exact ⟨a, h1, b, h2, c, hc, k⟩
    · simp at hr
  · rintro ⟨a, h1, b, h2, c, h3, k⟩
    rw [h1, h2]
    simp only [h3]
    exact ⟨_, rfl, k⟩
theorem PW_unOp {P op t x e H K} : PW P (.unOp op t x) e H K ↔ ∃ a, ev e x = some (.t a) ∧ ∃ c, unT op a = some c ∧ K (.t c) H .none := by
  rw [PW_op (fun _ => rfl)]
  unfold opRun
  dsimp only
  constructor
  · rintro ⟨r, hr, k⟩
    split at hr
    · rename_i a h1
      cases hc : unT op a with
      | none => simp [hc] at hr
      | some c => simp [hc, ret] at hr; subst hr; exact ⟨a, h1, c, hc, k⟩
    · simp at hr
  · rintro ⟨a, h1, c, h3, k⟩
    rw [h1]
    simp only [h3]
    exact ⟨_, rfl, k⟩
theorem PW_convert {P s d x e H K} : PW P (.convert s d x) e H K ↔ ∃ r, opRun P (.convert s d x) e H = some r ∧ K r.v r.H r.eff := PW_op (fun _ => rfl)
theorem PW_box {P t x e H K} : PW P (.box t x) e H K ↔ ∃ v, ev e x = some v ∧ v.storable = true ∧ K (.ptr H.length 1 0 0) (H ++ [⟨[v], v.cells.length, false⟩]) .none := by
  rw [PW_op (fun _ => rfl)]
  unfold opRun
  dsimp only
  cases ev e x with
  | none => simp
  | some v =>
    by_cases h : v.storable = true
    · simp [h]
    · simp [h]
theorem PW_len {P args at_ e H K} : PW P (.call { callee := .builtin .len, args := args, argTypes := at_ }) e H K ↔ ∃ r, opRun P (.call { callee := .builtin .len, args := args, argTypes := at_ }) e H = some r ∧ K r.v r.H r.eff := PW_op (fun _ => rfl)

/-- A call. -/
def CaW (P : Program) (f : FuncId) (vs : List V) (H : Heap) (K : V → Heap → Eff → Prop) : Prop :=
  ∃ k r, callRun P (funRun P k) f vs H = some r ∧ K r.v r.H r.eff

def fnArgs (v : V) (vs : List V) : Option (FuncId × List V) :=
  match v with
  | .t (.fn f) => some (f, vs)
  | .fn f a b => some (f, a ++ vs ++ b)
  | _ => none

theorem PW_call {P f args at_ e H K} : PW P (.call { callee := .value f, args := args, argTypes := at_ }) e H K ↔
    ∃ v, ev e f = some v ∧ ∃ vs, evs e args.toList = some vs ∧ ∃ p, fnArgs v vs = some p ∧ CaW P p.1 p.2 H K := by
  unfold PW opRunC
  constructor
  · rintro ⟨k, r, hr, q⟩
    dsimp only at hr
    split at hr
    · rename_i f' vs h1 h2; exact ⟨_, h1, _, h2, _, rfl, k, r, hr, q⟩
    · rename_i f' a b vs h1 h2; exact ⟨_, h1, _, h2, _, rfl, k, r, hr, q⟩
    · simp at hr
  · rintro ⟨v, h1, vs, h2, p, h3, k, r, hr, q⟩
    refine ⟨k, r, ?_, q⟩
    dsimp only
    rw [h1, h2]
    cases v <;> simp [fnArgs] at h3
    · rename_i x; cases x <;> simp at h3; subst h3; exact hr
    · subst h3; dsimp only at hr ⊢; rw [List.append_assoc]; exact hr

/-- A call of data alone. -/
theorem CaW_pure {P f vs H K ts} (h : vs.mapM (toT H depth) = some ts) :
    CaW P f vs H K ↔ ∃ u, Fun P f ts u ∧ K (importV (if noSl u then H else vs.foldl (hold depth) H) u).1 (importV (if noSl u then H else vs.foldl (hold depth) H) u).2 .none := by
  unfold CaW Fun callRun
  constructor
  · rintro ⟨k, r, hr, q⟩
    simp only [h] at hr
    cases hc : funRun P k f (ts.map V.t) [] with
    | none => simp [hc] at hr
    | some p =>
      obtain ⟨v, H1⟩ := p
      simp only [hc] at hr
      cases hx : exportB (isFresh P f) H1 v with
      | none => simp [hx] at hr
      | some u => simp only [hx, Option.some.injEq] at hr; subst hr; exact ⟨u, ⟨k, v, H1, hc, hx⟩, q⟩
  · rintro ⟨u, ⟨k, v, H1, hc, hx⟩, q⟩
    exact ⟨k, ⟨(importV (if noSl u then H else vs.foldl (hold depth) H) u).1, (importV (if noSl u then H else vs.foldl (hold depth) H) u).2, .none⟩, by simp only [h, hc, hx], q⟩

/-- The way into a function. -/
theorem Fun.intro {P : Program} {f : FuncId} {fn : Func} {c : Code} {ts : List T} {u : V} (hf : P.funcs[f]? = some fn) (hb : fn.body = some c) (hk : fnOk drawOk fn = true)
    (h : CW P c (enter (ts.map .t)) [] (fun x e H => (match x with | .exit _ => False | _ => True) ∧ ∃ vs, resVs P e H fn.results.toList = some vs ∧ exportB (isFresh P f) H (one vs) = some u)) : Fun P f ts u := by
  obtain ⟨k, x, e, H, h1, hx, vs, h2, h3⟩ := h
  refine ⟨k + 1, one vs, H, ?_, h3⟩
  simp only [funRun, hf, hb, hk, if_true, h1]
  cases x with
  | n => simp [h2]
  | exit id => exact hx.elim
  | ret => simp [h2]

end Go.Sim
