/- A part of the proof of a law of module cupola: SimN, SimM, SimV, SimY, SimZ. It has no conditions of its own. -/
import Derived.Test.YtkfceeaokfdmfaaGreatDoorSimF
import Derived.Scope
import Derived.RangeFuncSeq
set_option linter.all false
namespace Go.Sim
variable [Base]

theorem dsts_ok {N : Nat} {ops : Array Oper} (h : dstsOk N ops = true) : ∀ o ∈ ops.toList, ∀ d, o.dst = some d → d < N := by
  intro o ho d hd
  have := List.all_eq_true.1 h o ho
  simpa [hd] using this

def DrawFine (P : Program) (call : CallFn) (D : Array Oper → Bool) : Prop :=
  ∀ (N : Nat) (ops : Array Oper) (e : Env) (H : Heap) (e' : Env) (H' : Heap) (lg : Log) (t : Nat), Good N e H → (∀ o ∈ ops.toList, ∀ t, o.dst = some t → t < N) → D ops = true → opsRun P call ops ops.toList e H [] = some (e', H', lg) → lg.fine (loosePairs ops) = true →
    ∃ σ lg', Later ops (Region.schedule true ops t) σ ∧ opsRun P call ops (σ.filterMap (fun i => ops[i]?)) e H [] = some (e', H', lg')

def toExit : X → Exit
  | .n => .normal
  | .exit id => .exit id
  | .ret => .ret

theorem least {J : Nat → Prop} (h : ∃ k, J k) : ∃ k, J k ∧ ∀ k', J k' → k ≤ k' := by
  obtain ⟨k, hk⟩ := h
  induction k using Nat.strongRecOn with
  | ind k ih =>
    by_cases h : ∃ k', k' < k ∧ J k'
    · obtain ⟨k', h1, h2⟩ := h; exact ih k' h1 h2
    · exact ⟨k, hk, fun k' hk' => Nat.le_of_not_lt fun hlt => h ⟨k', hlt, hk'⟩⟩

theorem Act.drawn {w : World} {S : Cells} {H : Heap} {β : Bl} {N n0 : Nat} {e : Env} {a : Act} (n : Nat) (h : AgreeA N n0 w S H β e a) : AgreeA N n0 { w with drawn := n } S H β e a :=
  h.mono ⟨Nat.le_refl _, fun _ h => h⟩ (fun _ _ h => ⟨h, rfl⟩) (Grow.refl _ _)


def FR (ro : Option Nat) : Fence := { Fence.wide with round := ro }
theorem FR.depth {ro : Option Nat} {n : Nat} : (FR ro).depth.isSome = true → 1 ≤ n := fun h => by simp [FR, Fence.wide] at h
theorem FR.calls {ro : Option Nat} {n : Nat} {P : Program} {f : FuncId} {args : Array Value} {w : World} {R : Ending → World → Prop} (h : Calls P f args w R) : CallsIn (FR ro) n P f args w R := (callsIn_wide (n := n)).2 h
theorem FR.rows {ro : Option Nat} {n : Nat} {P : Program} {row : String} {args : Array Value} {w : World} {R : Value → World → Prop} (h : Rows P row args w R) : RowsIn (FR ro) n P row args w R := fun c cs _ => by
  obtain ⟨v, w', r, s⟩ := h c cs
  exact ⟨v, w', r, stepsIn_wide.2 s⟩

theorem opsIn_ok {P : Program} {ops : Array Oper} {ro : Option Nat} {n : Nat} {Q : Exit → Act → World → Prop} (hd : ro ≠ none → ∀ o ∈ ops.toList, ∀ c, o.op ≠ .defer c) (hQ : ¬ LetsOut Q) : ∀ (idxs : List Nat) (a : Act) (w : World), wpOps P ops Q idxs a w → wpOpsIn (FR ro) n P ops Q idxs a w := by
  intro idxs
  induction idxs with
  | nil => exact fun a w h => h
  | cons i idxs ih =>
    intro a w h
    rw [wpOps_cons] at h
    rw [wpOpsIn_cons]
    unfold Go.wpOp at h
    unfold Go.wpOpIn
    cases hi : ops[i]? with
    | none => simp only [hi] at h ⊢; exact ih _ _ h
    | some o =>
      simp only [hi] at h ⊢
      split at h
      · rename_i hw
        rw [if_pos hw]
        have h := h.resolve_right fun hh => hQ hh.2
        refine ⟨fun _ _ => trivial, ?_⟩
        have hs : o.semAt (FR ro).round a.eval = execOp a.eval o := by
          cases hro : ro with
          | none => rfl
          | some l => exact Oper.semAt_eq _ _ _ (hd (by simp [hro]) o (Array.mem_toList_iff.2 (Array.mem_of_getElem? hi)))
        rw [hs]
        unfold Oper.wp at h
        generalize (execOp a.eval o).run P w = r at h
        cases r with
        | ok x w' =>
          cases x <;> simp only [Oper.upon, Oper.uponIn] at h ⊢
          case value v => exact ih _ _ h
          case skip => exact ih _ _ h
          case defer d => exact ih _ _ h
          case enter f args =>
            refine ⟨FR.depth, FR.calls (h.mono ?_)⟩
            intro e w2
            cases e with
            | returned v => exact ih _ _
            | panicked c => exact id
            | outgrown => exact id
          case row row args =>
            exact ⟨FR.depth, FR.rows (h.mono fun v w2 => ih _ _)⟩
          all_goals exact h.elim
        | halt x w' => cases x <;> simp only [Oper.upon, Oper.uponIn] at h ⊢ <;> exact h
      · rename_i hw
        rw [if_neg hw]
        exact ⟨fun _ _ => trivial, ih _ _ h⟩

def OnlyN (Q : Exit → Act → World → Prop) : Exit → Act → World → Prop := fun x a w => x = .normal ∧ Q x a w
theorem OnlyN.out (Q : Exit → Act → World → Prop) : ¬ LetsOut (OnlyN Q) := by
  rintro ⟨a, w, h, _⟩
  cases h

theorem cell_put {W : World} {l : Nat} {o o' : Go.Obj} (h : W.heap[l]? = some o) (ho : o.isCells = false) (ho' : o'.isCells = false) (a : Addr) : (W.putObj l o').cell? a = W.cell? a := by
  by_cases e : a.block = l
  · have hl : l < W.heap.size := heap_lt h
    unfold World.cell?
    rw [e, World.putObj_heap_same hl, h]
    cases o <;> cases o' <;> first | rfl | (cases ho; done) | (cases ho'; done)
  · unfold World.cell?
    rw [World.putObj_heap_other e]
theorem Stay.put {W : World} {S : Cells} {l : Nat} {o o' : Go.Obj} (h : W.heap[l]? = some o) (ho : o.isCells = false) (ho' : o'.isCells = false) : Stay W S (W.putObj l o') S := fun b j hs => ⟨hs, cell_put h ho ho' _⟩
theorem Rel.put {W : World} {S : Cells} {H : Heap} {β : Bl} (hR : Rel W S H β) {l : Nat} {o o' : Go.Obj} (h : W.heap[l]? = some o) (ho : o.isCells = false) (ho' : o'.isCells = false) (ht : told o = false := by rfl) : Rel (W.putObj l o') S H β where
  len := hR.len
  inj := hR.inj
  lt := fun b j hs => by rw [World.putObj_size]; exact hR.lt b j hs
  base := hR.base.trans (Stay.put h ho ho')
  obj := fun id x b cap hx hb => (hR.obj id x b cap hx hb).mono (Stay.put h ho ho') (Grow.refl _ _) (World.putObj_heap_other fun e => hR.other h ht id cap (by rw [hb, e])) (fun _ => Iff.rfl)
theorem Ext.put {w W : World} {S S1 : Cells} {H H1 : Heap} {β β1 : Bl} (hE : Ext w S H β W S1 H1 β1) {l : Nat} {o o' : Go.Obj} (h : W.heap[l]? = some o) (ho : o.isCells = false) (ho' : o'.isCells = false) (hl : w.heap.size ≤ l) : Ext w S H β (W.putObj l o') S1 H1 β1 where
  os := hE.os
  output := hE.output
  size := by rw [World.putObj_size]; exact hE.size
  keep := fun b hb hn => (World.putObj_heap_other (by omega)).trans (hE.keep b hb hn)
  stay := hE.stay.trans (Stay.put h ho ho')
  new := hE.new
  grow := hE.grow
  own := hE.own
theorem Ext.around {w W W2 : World} {S S1 S2 : Cells} {H H1 H2 : Heap} {β β1 β2 : Bl} (hE : Ext w S H β W S1 H1 β1) {l : Nat} {o o' : Go.Obj} (h0 : w.heap[l]? = some o) (h : W.heap[l]? = some o) (ho : o.isCells = false) (ho' : o'.isCells = false) (hE2 : Ext (W.putObj l o') S1 H1 β1 W2 S2 H2 β2)
    (h2 : W2.heap[l]? = some o') : Ext w S H β (W2.putObj l o) S2 H2 β2 where
  os := hE2.os.trans hE.os
  output := hE2.output.trans hE.output
  size := by rw [World.putObj_size]; have := hE2.size; rw [World.putObj_size] at this; exact Nat.le_trans hE.size this
  keep := fun b hb hn => by
    by_cases e : b = l
    · rw [e, World.putObj_heap_same (heap_lt h2), h0]
    · rw [World.putObj_heap_other e, hE2.keep b (by rw [World.putObj_size]; exact Nat.lt_of_lt_of_le hb hE.size) (fun id c e' => by
        rcases hE.own id b c e' with ⟨id', c', e''⟩ | hge
        · exact hn id' c' e''
        · omega), World.putObj_heap_other e, hE.keep b hb hn]
  stay := (hE.stay.trans ((Stay.put h ho ho').trans hE2.stay)).trans (Stay.put h2 ho' ho)
  new := fun b j hs => by
    rcases hE2.new b j hs with h1 | h1 | ⟨id, c, h1⟩
    · exact hE.new b j h1
    · rw [World.putObj_size] at h1; exact .inr (.inl (Nat.le_trans hE.size h1))
    · rcases hE.own id b c h1 with ⟨id', c', h3⟩ | h3
      · exact .inr (.inr ⟨id', c', h3⟩)
      · exact .inr (.inl h3)
  grow := hE.grow.trans hE2.grow
  own := fun id b c e => by
    rcases hE2.own id b c e with ⟨id', c', e'⟩ | hge
    · exact hE.own id' b c' e'
    · rw [World.putObj_size] at hge; exact .inr (Nat.le_trans hE.size hge)
theorem Rel.extraO {w : World} {S : Cells} {H : Heap} {β : Bl} (h : Rel w S H β) (o : Go.Obj) : Ext w S H β (w.alloc o) S H β ∧ Rel (w.alloc o) S H β := by
  have hs := Stay.alloc h.lt o
  refine ⟨⟨rfl, rfl, by rw [alloc_size]; omega, fun b hb _ => alloc_old _ _ _ hb, hs, fun _ _ h => .inl h, Grow.refl _ _, fun id _ c e => .inl ⟨id, c, e⟩⟩, ⟨h.len, h.inj, ?_, ?_, h.base.trans hs⟩⟩
  · intro b j hS; have := h.lt b j hS; rw [alloc_size]; omega
  · intro id o b c ho e
    have hb := h.block e
    exact (h.obj id o b c ho e).mono hs (Grow.refl _ _) (alloc_old _ _ _ hb) (fun j => Iff.rfl)

def SeqOk [Orc] (P : Program) : Prop := ∀ (f : FuncId) (caps : List V) (H : Heap) (l : List (T × (Heap → Option Heap))) (fin : Heap → Option Heap), Orc.seq f caps H = some (l, fin) →
  (∃ fn, P.funcs[f]? = some fn ∧ fn.body.isSome = true ∧ (fn.name == "runtime.NumGoroutine") = false) ∧
  ∀ (w : World) (S : Cells) (β : Bl) (us : List Value) (yl : Nat) (J : List (T × (Heap → Option Heap)) → Heap → World → Cells → Bl → Prop), Rel w S H β → caps.length = us.length → (∀ i (hi : i < caps.length) (hu : i < us.length), RV w S H β caps[i] us[i]) →
    (∀ r H1 W1 S1 β1, J r H1 W1 S1 β1 → Rel W1 S1 H1 β1 ∧ Ext w S H β W1 S1 H1 β1) →
    (∀ x m r H1 W1 S1 β1, J ((x, m) :: r) H1 W1 S1 β1 → ∃ H2, m H1 = some H2 ∧ ∀ W2 S2 β2 u, Ext W1 S1 H1 β1 W2 S2 H2 β2 → Rel W2 S2 H2 β2 → RT W2 S2 x u →
      ∀ n, YieldAt Fence.wide n P yl #[u] W2 fun e W3 => e = .returned (.bool true) ∧ ∃ H3 S3 β3, J r H3 W3 S3 β3) →
    (∀ H1 W1 S1 β1, J [] H1 W1 S1 β1 → ∃ H2, fin H1 = some H2) → J l H w S β →
    Calls P f (#[.func (.yield yl) #[] #[]] ++ us.toArray) w fun e W' => (∃ v, e = .returned v) ∧ ∃ H1 W1 S1 β1 H2 S2 β2, J [] H1 W1 S1 β1 ∧ fin H1 = some H2 ∧ Ext W1 S1 H1 β1 W' S2 H2 β2 ∧ Rel W' S2 H2 β2

theorem Agree.defers {N n0 : Nat} {w : World} {S : Cells} {H : Heap} {β : Bl} {e : Env} {a : Act} (h : AgreeA N n0 w S H β e a) {n1 : Nat} {ds : List Deferred} (hm : Marks n1 w ds) : AgreeA N n1 w S H β e { a with defers := ds } :=
  ⟨hm, h.2.1, h.2.2⟩

theorem code_okIn [Orc] {P : Program} {call : CallFn} {D : Array Oper → Bool} (hC : CallOk P call) (hD : DrawFine P call D) (hm : P.follows .mixedOrders = true) (hq : SeqOk P) {N m : Nat} : ∀ (c : Code) (ro : Option Nat) (n n0 : Nat) (e : Env) (H : Heap) (x : X) (e' : Env) (H' : Heap),
    (ro ≠ none → plainC c = true) → codeRun P call m c e H = some (x, e', H') → codeOk D N c = true → ∀ (Q : Exit → Act → World → Prop) (w : World) (S : Cells) (β : Bl) (a : Act), Rel w S H β → AgreeA N n0 w S H β e a →
    (∀ a' w' S' β', Ext w S H β w' S' H' β' → Rel w' S' H' β' → AgreeA N n0 w' S' H' β' e' a' → Q (toExit x) a' w') → c.wpIn (FR ro) n P Q a w := by
  intro c
  induction c with
  | skip =>
    intro ro n n0 e H x e' H' hp h _ Q w S β a hR hA hQ
    simp [codeRun] at h; obtain ⟨rfl, rfl, rfl⟩ := h
    exact wpIn_skip (hQ a w S β (Ext.refl _ _ _ _) hR hA)
  | label l =>
    intro ro n n0 e H x e' H' hp h _ Q w S β a hR hA hQ
    simp [codeRun] at h; obtain ⟨rfl, rfl, rfl⟩ := h
    exact wpIn_label (hQ a w S β (Ext.refl _ _ _ _) hR hA)
  | exit id =>
    intro ro n n0 e H x e' H' hp h _ Q w S β a hR hA hQ
    simp [codeRun] at h; obtain ⟨rfl, rfl, rfl⟩ := h
    exact wpIn_exit (hQ a w S β (Ext.refl _ _ _ _) hR hA)
  | ret =>
    intro ro n n0 e H x e' H' hp h _ Q w S β a hR hA hQ
    simp [codeRun] at h; obtain ⟨rfl, rfl, rfl⟩ := h
    exact wpIn_ret (hQ a w S β (Ext.refl _ _ _ _) hR hA)
  | region id ops d =>
    intro ro n n0 e H x e' H' hp h hk Q w S β a hR hA hQ
    simp only [codeOk, Bool.and_eq_true] at hk
    have hdef : ro ≠ none → ∀ o ∈ ops.toList, ∀ c, o.op ≠ .defer c := fun h1 o ho c hc => by
      have := List.all_eq_true.1 (hp h1) o ho
      rw [hc] at this
      cases this
    cases d with
    | false =>
      simp only [codeRun, Option.map_eq_some_iff] at h
      obtain ⟨⟨e1, H1, lg⟩, h1, h2⟩ := h
      simp only [Prod.mk.injEq] at h2
      obtain ⟨rfl, rfl, rfl⟩ := h2
      refine wpIn_mono (Q := OnlyN Q) (wpIn_region (opsIn_ok hdef (OnlyN.out Q) _ _ _ ?_)) fun e a w h => h.2
      refine ops_ok hC (List.range ops.size) e H [] e1 H1 lg ?_ (dsts_ok hk.1) w S β a hR hA fun a' w' S' β' h1 h2 h3 => ⟨rfl, hQ a' w' S' β' h1 h2 h3⟩
      rw [range_lists]; exact h1
    | true =>
      simp only [codeRun] at h
      split at h
      · rename_i e1 H1 lg h1
        split at h
        · rename_i hf
          simp only [Option.some.injEq, Prod.mk.injEq] at h
          obtain ⟨rfl, rfl, rfl⟩ := h
          refine wpIn_mono (Q := OnlyN Q) (wpIn_region_draw fun t => opsIn_ok hdef (OnlyN.out Q) _ _ _ ?_) fun e a w h => h.2
          rw [hm]
          have hDo : D ops = true := by simpa using hk.2
          obtain ⟨σ, lg', hlt, h3⟩ := hD N ops e H e1 H1 lg t ⟨n0, w, S, β, a, hR, hA⟩ (dsts_ok hk.1) hDo h1 hf
          have hR1 := hR.drawn (w.drawn + 1)
          refine ops_later hC (dsts_ok hk.1) hlt h3 hR1 (Act.drawn _ hA) ?_
          intro a' w' S' β' hE hR' hA'
          exact ⟨rfl, hQ a' w' S' β' ((Ext.drawn _).trans hE) hR' hA'⟩
        · cases h
      · cases h
  | seq x y ihx ihy =>
    intro ro n n0 e H x' e' H' hp h hk Q w S β a hR hA hQ
    simp only [codeOk, Bool.and_eq_true] at hk
    simp only [codeRun] at h
    have hpx : ro ≠ none → plainC x = true := fun h1 => by have := hp h1; simp only [plainC, Bool.and_eq_true] at this; exact this.1
    have hpy : ro ≠ none → plainC y = true := fun h1 => by have := hp h1; simp only [plainC, Bool.and_eq_true] at this; exact this.2
    refine wpIn_seq ?_
    split at h
    · rename_i e1 H1 h1
      refine ihx ro n n0 e H .n e1 H1 hpx h1 hk.1 _ w S β a hR hA ?_
      intro a1 w1 S1 β1 hE1 hR1 hA1
      exact ihy ro n n0 e1 H1 x' e' H' hpy h hk.2 Q w1 S1 β1 a1 hR1 hA1 fun a' w' S' β' hE hR' hA' => hQ a' w' S' β' (hE1.trans hE) hR' hA'
    · rename_i hne
      refine ihx ro n n0 e H x' e' H' hpx h hk.1 _ w S β a hR hA ?_
      intro a1 w1 S1 β1 hE1 hR1 hA1
      cases x' with
      | n => exact absurd h (hne _ _)
      | exit id => exact hQ a1 w1 S1 β1 hE1 hR1 hA1
      | ret => exact hQ a1 w1 S1 β1 hE1 hR1 hA1
  | cond c x y ihx ihy =>
    intro ro n n0 e H x' e' H' hp h hk Q w S β a hR hA hQ
    simp only [codeOk, Bool.and_eq_true] at hk
    simp only [codeRun] at h
    have hpx : ro ≠ none → plainC x = true := fun h1 => by have := hp h1; simp only [plainC, Bool.and_eq_true] at this; exact this.1
    have hpy : ro ≠ none → plainC y = true := fun h1 => by have := hp h1; simp only [plainC, Bool.and_eq_true] at this; exact this.2
    split at h
    · rename_i hc
      exact wpIn_cond_true (rv_bool (hA.2.2 c _ hc)) (ihx ro n n0 e H x' e' H' hpx h hk.1 Q w S β a hR hA hQ)
    · rename_i hc
      exact wpIn_cond_false (rv_bool (hA.2.2 c _ hc)) (ihy ro n n0 e H x' e' H' hpy h hk.2 Q w S β a hR hA hQ)
    · cases h
  | block id b ih =>
    intro ro n n0 e H x' e' H' hp h hk Q w S β a hR hA hQ
    simp only [codeRun] at h
    refine wpIn_block ?_
    split at h
    · rename_i id' e1 H1 h1
      refine ih ro n n0 e H (.exit id') e1 H1 hp h1 hk _ w S β a hR hA ?_
      intro a1 w1 S1 β1 hE1 hR1 hA1
      show if id' = id then Q .normal a1 w1 else Q (.exit id') a1 w1
      split at h
      · rename_i hid
        simp only [Option.some.injEq, Prod.mk.injEq] at h
        obtain ⟨rfl, rfl, rfl⟩ := h
        rw [if_pos hid]; exact hQ a1 w1 S1 β1 hE1 hR1 hA1
      · rename_i hid
        simp only [Option.some.injEq, Prod.mk.injEq] at h
        obtain ⟨rfl, rfl, rfl⟩ := h
        rw [if_neg hid]; exact hQ a1 w1 S1 β1 hE1 hR1 hA1
    · rename_i hne
      refine ih ro n n0 e H x' e' H' hp h hk _ w S β a hR hA ?_
      intro a1 w1 S1 β1 hE1 hR1 hA1
      cases x' with
      | n => exact hQ a1 w1 S1 β1 hE1 hR1 hA1
      | exit id => exact absurd h (hne _ _ _)
      | ret => exact hQ a1 w1 S1 β1 hE1 hR1 hA1
  | scope b ih =>
    intro ro n n0 e H x e' H' hp h hk Q w S β a hR hA hQ
    simp only [codeRun] at h
    cases ro with
    | some l => exact absurd (hp (by simp)) (by simp [plainC])
    | none =>
    refine (wpIn_wide (n := n)).2 (wp_scope_straight ((wpIn_wide (n := n)).1 ?_))
    refine ih none n n0 e H x e' H' (fun h => absurd rfl h) h hk _ w S β a hR hA ?_
    intro a1 w1 S1 β1 hE1 hR1 hA1
    have := hQ a1 w1 S1 β1 hE1 hR1 hA1
    cases x <;> exact this
  | loop b ih =>
    intro ro n n0 e H x' e' H' hp h hk Q w S β a hR hA hQ
    simp only [codeRun] at h
    let J : Act → World → Nat → Prop := fun a1 w1 k => ∃ e1 H1 S1 β1, iter (codeRun P call m b) k e1 H1 = some (x', e', H') ∧ Ext w S H β w1 S1 H1 β1 ∧ Rel w1 S1 H1 β1 ∧ AgreeA N n0 w1 S1 H1 β1 e1 a1
    classical
    refine wpIn_loop (fun a1 w1 => ∃ k, J a1 w1 k) (fun a1 w1 => if hh : ∃ k, J a1 w1 k then (least hh).choose else 0) ⟨m, e, H, S, β, h, Ext.refl _ _ _ _, hR, hA⟩ ?_
    intro a1 w1 hJ
    obtain ⟨hk1, hk2⟩ := (least hJ).choose_spec
    have hμ : (if hh : ∃ k, J a1 w1 k then (least hh).choose else 0) = (least hJ).choose := by rw [dif_pos hJ]
    generalize (least hJ).choose = k at hk1 hk2 hμ
    obtain ⟨e1, H1, S1, β1, hit, hE1, hR1, hA1⟩ := hk1
    cases k with
    | zero => simp [iter] at hit
    | succ k =>
      simp only [iter] at hit
      split at hit
      · rename_i e2 H2 h2
        refine ih ro n n0 e1 H1 .n e2 H2 hp h2 hk _ w1 S1 β1 a1 hR1 hA1 ?_
        intro a2 w2 S2 β2 hE2 hR2 hA2
        have hJ2 : J a2 w2 k := ⟨e2, H2, S2, β2, hit, hE1.trans hE2, hR2, hA2⟩
        refine ⟨⟨k, hJ2⟩, ?_⟩
        rw [hμ]
        have hJ3 : ∃ k, J a2 w2 k := ⟨k, hJ2⟩
        rw [dif_pos hJ3]
        have := (least hJ3).choose_spec.2 k hJ2
        omega
      · rename_i hne
        refine ih ro n n0 e1 H1 x' e' H' hp hit hk _ w1 S1 β1 a1 hR1 hA1 ?_
        intro a2 w2 S2 β2 hE2 hR2 hA2
        cases x' with
        | n => exact absurd hit (hne _ _)
        | exit id => exact hQ a2 w2 S2 β2 (hE1.trans hE2) hR2 hA2
        | ret => exact hQ a2 w2 S2 β2 (hE1.trans hE2) hR2 hA2
  | rangeFunc g ps A B ihA ihB =>
    intro ro n n0 e H x' e' H' hp h hk Q w S β a hR hA hQ
    cases ro with
    | some l => exact absurd (hp (by simp)) (by simp [plainC])
    | none =>
    simp only [codeOk, Bool.and_eq_true] at hk
    obtain ⟨⟨⟨⟨hps, hpA⟩, hpB⟩, hkA⟩, hkB⟩ := hk
    simp only [codeRun] at h
    split at h
    rotate_left
    · cases h
    rename_i f caps p hg hpl
    split at h
    rotate_left
    · cases h
    rename_i l fin hseq
    split at h
    rotate_left
    · cases h
    rename_i Hend hrounds
    simp only [Option.map_eq_some_iff, Prod.mk.injEq] at h
    obtain ⟨Hf, hfin, rfl, rfl, rfl⟩ := h
    have hpp : p < N := by
      rw [hpl] at hps
      simpa using hps
    obtain ⟨⟨fn, hfn, hbody, hname⟩, hcall⟩ := hq f caps H l fin hseq
    -- the function's value
    have hgv := hA.2.2 g _ hg
    obtain ⟨us, hus, hul, hur⟩ : ∃ us : List Value, a.eval g = .func (.func f) #[] us.toArray ∧ caps.length = us.length ∧ ∀ i (hi : i < caps.length) (hu : i < us.length), RV w S H β caps[i] us[i] := by
      generalize a.eval g = q at hgv
      cases hgv with
      | fn _ _ _ us1 us2 hl1 hl2 h1 h2 =>
        have : us1 = [] := List.eq_nil_of_length_eq_zero (by simpa using hl1.symm)
        subst this
        exact ⟨us2, rfl, hl2, h2⟩
    have hpsA : ps = #[p] := by
      apply Array.ext'; simpa using hpl
    refine wpIn_rangeFunc (F := FR none) ?_
    intro fid _
    -- the record
    obtain ⟨rec, hrec⟩ : ∃ rec : LoopState → Loop, rec = fun st => { state := st, pending := none, fn := fid, tmps := a.tmps, params := ps, assign := A, body := B, defers := w.heap.size } := ⟨_, rfl⟩
    obtain ⟨hE0, hR0⟩ := hR.extraO (.deferred (some []))
    obtain ⟨hE1', hR1⟩ := hR0.extraO (.loop (rec .ready))
    have hE1 := hE0.trans hE1'
    obtain ⟨W1, hW1⟩ : ∃ W1, (w.alloc (.deferred (some []))).alloc (.loop (rec .ready)) = W1 := ⟨_, rfl⟩
    have hL1 : W1.heap[w.heap.size + 1]? = some (.loop (rec .ready)) := by
      rw [← hW1]; have := World.alloc_heap_new (w.alloc (.deferred (some []))) (.loop (rec .ready)); rwa [World.size_alloc] at this
    have hK1 : W1.heap[w.heap.size]? = some (.deferred (some [])) := by
      rw [← hW1]; exact (alloc_old _ _ _ (by rw [alloc_size]; omega)).trans (World.alloc_heap_new w _)
    rw [hW1] at hE1 hR1
    refine ⟨w.heap.size + 1, [{ target := .collected w.heap.size, args := #[] }], W1, { target := .fn (.func f) us.toArray, args := #[.func (.yield (w.heap.size + 1)) #[] #[]] }, W1, f,
      #[.func (.yield (w.heap.size + 1)) #[] #[]] ++ us.toArray, W1, ?_, ?_, ?_, ?_, FR.depth, ?_⟩
    · rw [← hW1, hrec]; exact run_enterLoop_outer _ _ _ _ _
    · simp only [resolve, hus]
      simp [go_sem]
    · intro f' _; trivial
    · obtain ⟨c, hc⟩ := Option.isSome_iff_exists.1 hbody
      have hn : fn.name ≠ "runtime.NumGoroutine" := by simpa using hname
      simp [invoke, callFunc, hfn, hc, hn]
    · refine FR.calls ?_
      let J : List (T × (Heap → Option Heap)) → Heap → World → Cells → Bl → Prop := fun r H2 W S2 β2 => Rel W S2 H2 β2 ∧ Ext W1 S H β W S2 H2 β2 ∧ W.heap[w.heap.size + 1]? = some (.loop (rec .ready)) ∧ W.heap[w.heap.size]? = some (.deferred (some [])) ∧
        rounds (codeRun P call m A) (codeRun P call m B) p e r H2 = some Hend
      refine (hcall W1 S β us (w.heap.size + 1) J hR1 hul (fun i hi hu => (hur i hi hu).mono hE1.stay hE1.grow) (fun r H1 W1 S1 β1 h => ⟨h.1, h.2.1⟩) ?_ ?_ ⟨hR1, Ext.refl _ _ _ _, hL1, hK1, hrounds⟩).mono ?_
      · -- a round
        rintro x mm r H2 W2 S2 β2 ⟨hR2, hE2, hL2, hK2, hr2⟩
        simp only [rounds] at hr2
        cases hmm : mm H2 with
        | none => simp [hmm] at hr2
        | some H3 =>
          simp only [hmm] at hr2
          split at hr2
          rotate_left
          · cases hr2
          rename_i e4 H4 hrunA
          split at hr2
          rotate_left
          · cases hr2
          rename_i e5 H5 hrunB
          refine ⟨H3, rfl, fun W3 S3 β3 u hE3 hR3 hxu nn => ?_⟩
          have hL3 := hE3.other hR2 hL2 rfl
          have hK3 := hE3.other hR2 hK2 rfl
          have hE13 := hE2.trans hE3
          have hA3 : AgreeA N 0 W3 S3 H3 β3 (put e p (.t x)) { tmps := a.tmps.setIfInBounds p u, defers := [] } := by
            have h1 := (hA.mono ((hE1.trans hE13).marks hR) (hE1.trans hE13).stay (hE1.trans hE13).grow)
            have h2 := (Agree.defers h1 (n1 := 0) (ds := []) ⟨Nat.zero_le _, List.Pairwise.nil, fun d hd => by cases hd⟩).put (d := some p) (fun t ht => by cases ht; exact hpp) (.t x u hxu)
            exact h2
          have hy : (Instr.yield (w.heap.size + 1) #[u]).run P W3 = .ok (.round (w.heap.size + 1) fid (a.tmps.setIfInBounds p u) A B) W3 := by
            rw [run_yield (P := P) (args := #[u]) hL3 (by rw [hrec, hpsA]; rfl), hrec]
            simp [hpsA]
          refine ⟨fid, _, A, B, hy, roundIn_of_wpIn trivial ?_⟩
          show A.wpIn (FR (some (w.heap.size + 1))) nn P _ _ _
          refine ihA (some (w.heap.size + 1)) nn 0 _ H3 .n e4 H4 (fun _ => hpA) hrunA hkA _ W3 S3 β3 _ hR3 hA3 ?_
          intro a4 W4 S4 β4 hE4 hR4 hA4
          have hL4 := hE4.other hR3 hL3 rfl
          have hK4 := hE4.other hR3 hK3 rfl
          refine ⟨_, run_beginRound hL4 (by rw [hrec]), ?_⟩
          have hR4' := hR4.put (o' := .loop { rec .ready with state := .busy }) hL4 rfl rfl
          have hA4' : AgreeA N 0 (W4.putObj (w.heap.size + 1) (.loop { rec .ready with state := .busy })) S4 H4 β4 e4 a4 := hA4.mono ⟨by rw [World.putObj_size]; exact Nat.le_refl _, fun D hD => (World.putObj_heap_other (fun e => by rw [e, hL4] at hD; cases hD)).trans hD⟩ (Stay.put hL4 rfl rfl) (Grow.refl _ _)
          refine ihB (some (w.heap.size + 1)) nn 0 _ H4 .n e5 H5 (fun _ => hpB) hrunB hkB _ _ S4 β4 _ hR4' hA4' ?_
          intro a5 W5 S5 β5 hE5 hR5 hA5
          have hL4b : (W4.putObj (w.heap.size + 1) (.loop { rec .ready with state := .busy })).heap[w.heap.size + 1]? = some (.loop { rec .ready with state := .busy }) := World.putObj_heap_same (heap_lt hL4)
          have hL5 := hE5.other hR4' hL4b rfl
          have hK5 : W5.heap[w.heap.size]? = some (.deferred (some [])) := hE5.other hR4' ((World.putObj_heap_other (by omega)).trans hK4) rfl
          have hend := run_endRound (P := P) none hL5
          have hrr : ({ { rec .ready with state := .busy } with state := if (none : Option Code).isNone = true then .ready else .done, pending := none } : Loop) = rec .ready := by rw [hrec]; rfl
          rw [hrr] at hend
          refine ⟨_, _, hend, rfl, H5, S5, β5, hR5.put hL5 rfl rfl, ?_, World.putObj_heap_same (heap_lt hL5), (World.putObj_heap_other (by omega)).trans hK5, hr2⟩
          exact hE13.trans (Ext.around hE4 hL3 hL4 rfl rfl hE5 hL5)
      · rintro H2 W2 S2 β2 ⟨hR2, hE2, hL2, hK2, hr2⟩
        simp only [rounds, Option.some.injEq] at hr2
        subst hr2
        exact ⟨Hf, hfin⟩
      · rintro e9 W9 ⟨⟨v, rfl⟩, H2, W2, S2, β2, H3, S3, β3, ⟨hR2, hE2, hL2, hK2, hr2⟩, hf3, hE3, hR3⟩
        simp only [rounds, Option.some.injEq] at hr2
        subst hr2
        rw [hfin] at hf3; cases hf3
        have hL3 := hE3.other hR2 hL2 rfl
        have hK3 := hE3.other hR2 hK2 rfl
        have hend : (Instr.endLoop (w.heap.size + 1)).run P W9 = .ok none (W9.putObj (w.heap.size + 1) (.loop { rec .ready with state := .exhausted })) := by
          rw [run_endLoop (P := P) hL3 (by rw [hrec]; simp), hrec]
        refine ⟨none, _, hend, ?_⟩
        have hE13 := hE1.trans (hE2.trans hE3)
        refine hQ _ _ S3 β3 (hE13.put hL3 rfl rfl (by omega)) (hR3.put hL3 rfl rfl) ?_
        have hA3 := hA.mono (hE13.marks hR) hE13.stay hE13.grow
        have hA3' : AgreeA N n0 (W9.putObj (w.heap.size + 1) (.loop { rec .ready with state := .exhausted })) S3 Hf β3 e a := hA3.mono ⟨by rw [World.putObj_size]; exact Nat.le_refl _, fun D hD => (World.putObj_heap_other (fun e => by rw [e, hL3] at hD; cases hD)).trans hD⟩ (Stay.put hL3 rfl rfl) (Grow.refl _ _)
        refine Agree.defers hA3' (ds := { target := .collected w.heap.size, args := #[] } :: a.defers) ⟨hA3'.1.1, List.pairwise_cons.2 ⟨fun d hd e => ?_, hA3'.1.2.1⟩, fun d hd => ?_⟩
        · obtain ⟨D, h1, h2, h3⟩ := hA.1.2.2 d hd
          rw [h1] at e
          cases e
          have := heap_lt h3
          omega
        · rcases List.mem_cons.1 hd with rfl | hd
          · exact ⟨w.heap.size, rfl, hA.1.1, (World.putObj_heap_other (by omega)).trans hK3⟩
          · exact hA3'.1.2.2 d hd
  | _ =>
    intro ro n n0 e H x e' H' _ h
    simp [codeRun] at h


theorem res_ok {P : Program} {N n0 : Nat} {w : World} {S : Cells} {H : Heap} {β : Bl} {e : Env} {a : Act} (hR : Rel w S H β) (hA : AgreeA N n0 w S H β e a) (F : ResultVar → Sem Value)
    (hF1 : ∀ t, F (.tmp t) = pure (a.tmps.getD t undef)) (hF2 : ∀ c t, F (.cell c t) = (do loadVar t (← asAddr (a.tmps.getD c undef)))) : ∀ (rs : List ResultVar) (vs : List V), resVs P e H rs = some vs →
    ∃ us : List Value, (rs.mapM F).run P w = Result.ok us w ∧ vs.length = us.length ∧ ∀ i (hi : i < vs.length) (hu : i < us.length), RV w S H β vs[i] us[i] := by
  intro rs
  induction rs with
  | nil =>
    intro vs h
    simp only [resVs, Option.some.injEq] at h; subst h
    exact ⟨[], by simp, rfl, fun i hi => by simp at hi⟩
  | cons r rs ih =>
    intro vs h
    simp only [resVs] at h
    cases hr : resV P e H r with
    | none => simp [hr] at h
    | some v =>
      cases hrs : resVs P e H rs with
      | none => simp [hr, hrs] at h
      | some vs' =>
        simp [hr, hrs] at h; subst h
        obtain ⟨us, h1, h2, h3⟩ := ih vs' hrs
        have one : ∃ u, (F r).run P w = Result.ok u w ∧ RV w S H β v u := by
          cases r with
          | tmp t =>
            simp only [resV, Option.some.injEq] at hr; subst hr
            exact ⟨_, by rw [hF1]; rfl, hA.2.2 (.tmp t) _ rfl⟩
          | cell c t =>
            simp only [resV, Option.map_eq_some_iff] at hr
            obtain ⟨r, hr, rfl⟩ := hr
            obtain ⟨ad, u, h4, h5, h6⟩ := load_run hR (hA.2.2 (.tmp c) _ rfl) hr
            simp only [Act.eval] at h4
            refine ⟨u, ?_, h6⟩
            rw [hF2, h4]
            simp [asAddr, h5]
        obtain ⟨u, h4, h5⟩ := one
        refine ⟨u :: us, ?_, by simp [h2], fun i hi hu => ?_⟩
        · rw [List.mapM_cons]
          simp only [Sem.run_bind, h4, Result.andThen_ok, h1, Sem.run_pure]
        · cases i with
          | zero => exact h5
          | succ i => exact h3 i (by simpa using hi) (by simpa using hu)

def resF (tmps : Array Value) : ResultVar → Sem Value
  | .tmp t => pure (tmps.getD t undef)
  | .cell c t => do loadVar t (← asAddr (tmps.getD c undef))

theorem results_eq (fn : Func) (tmps : Array Value) : results fn tmps = (do
    let vs ← fn.results.mapM (resF tmps)
    pure (if h : vs.size = 1 then vs[0] else .tuple vs)) := by
  unfold results
  congr 2

def OrcOk [Orc] (P : Program) : Prop := ∀ (f : FuncId) (args : List V) (H : Heap) (v : V) (H' : Heap), Orc.has f = true → Orc.run f args H = some (v, H') → v.isDead = false →
  (∃ fn, P.funcs[f]? = some fn ∧ fn.body.isSome = true ∧ (fn.name == "runtime.NumGoroutine") = false) ∧
    ∀ (w : World) (S : Cells) (β : Bl) (us : List Value), Rel w S H β → args.length = us.length → (∀ i (hi : i < args.length) (hu : i < us.length), RV w S H β args[i] us[i]) →
      Calls P f us.toArray w (Back w S H β v H')

def DataOk (P : Program) (f : FuncId) (run : List T → Option T) : Prop := ∀ (ts : List T) (x : T), run ts = some x →
  (∃ fn, P.funcs[f]? = some fn ∧ fn.body.isSome = true ∧ (fn.name == "runtime.NumGoroutine") = false) ∧
  ∀ (w : World) (S : Cells) (us : List Value), Stay Base.w Base.S w S → (∀ b j, S b j → b < w.heap.size) → ts.length = us.length → (∀ i (hi : i < ts.length) (hu : i < us.length), RT w S ts[i] us[i]) →
    Calls P f us.toArray w fun e w' => ∃ v S', e = .returned v ∧ RT w' S' x v ∧ (∀ b j, S' b j → S b j ∨ (w.heap.size ≤ b ∧ b < w'.heap.size)) ∧ w'.os = w.os ∧ w'.output = w.output ∧ w.heap.size ≤ w'.heap.size ∧ ∀ k, k < w.heap.size → w'.heap[k]? = w.heap[k]?

theorem pureV_mapM : ∀ {args : List V} {ts : List T}, args.mapM pureV = some ts → args = ts.map .t
  | [], ts, h => by simp at h; subst h; rfl
  | a :: r, ts, h => by
    rw [List.mapM_cons] at h
    cases a with
    | t x =>
      cases hr : r.mapM pureV with
      | none => simp [pureV, hr] at h
      | some l =>
        simp [pureV, hr] at h
        subst h
        rw [pureV_mapM hr]; rfl
    | _ => simp [pureV] at h

theorem data_ok {P : Program} {f : FuncId} {run : List T → Option T} (ho : DataOk P f run) {args : List V} {H : Heap} {v : V} {H' : Heap} (h : dataRun run args H = some (v, H')) :
    (∃ fn, P.funcs[f]? = some fn ∧ fn.body.isSome = true ∧ (fn.name == "runtime.NumGoroutine") = false) ∧
    ∀ (w : World) (S : Cells) (β : Bl) (us : List Value), Rel w S H β → args.length = us.length → (∀ i (hi : i < args.length) (hu : i < us.length), RV w S H β args[i] us[i]) →
      Calls P f us.toArray w (Back w S H β v H') := by
  unfold dataRun at h
  cases H with
  | cons o r => cases h
  | nil =>
    simp only [Option.bind_eq_some_iff, Option.map_eq_some_iff, Prod.mk.injEq] at h
    obtain ⟨ts, h1, x, h2, rfl, rfl⟩ := h
    obtain ⟨h3, h4⟩ := ho ts x h2
    refine ⟨h3, fun w S β us hR hl hv => ?_⟩
    have hb : β = [] := List.eq_nil_of_length_eq_zero (by rw [hR.len]; rfl)
    subst hb
    have ha := pureV_mapM h1
    subst ha
    refine (h4 w S us hR.base hR.lt (by simpa using hl) (fun i hi hu => ?_)).mono ?_
    · have := hv i (by simpa using hi) hu
      rw [List.getElem_map] at this
      exact rv_t this
    · rintro e w' ⟨u, S', rfl, hx, hS, hos, hout, hsz, hk⟩
      have hlt := hR.lt
      have hst : Stay w S w' (fun b j => S b j ∨ S' b j) := fun b j hs => ⟨.inl hs, by
        unfold World.cell?
        rw [show w'.heap[(⟨b, j, Option.none⟩ : Addr).block]? = w.heap[(⟨b, j, Option.none⟩ : Addr).block]? from hk b (hlt b j hs)]⟩
      refine ⟨u, fun b j => S b j ∨ S' b j, [], rfl, ⟨hos, hout, hsz, fun b hb _ => hk b hb, hst, fun b j hs => ?_, Grow.refl _ _, fun id b c h => by simp at h⟩, Rel.none (hR.base.trans hst) fun b j hs => ?_, .t _ _ (hx.mono fun b j hs => ⟨.inr hs, rfl⟩)⟩
      · rcases hs with hs | hs
        · exact .inl hs
        · rcases hS b j hs with h | h
          · exact .inl h
          · exact .inr (.inl h.1)
      · rcases hs with hs | hs
        · exact Nat.lt_of_lt_of_le (hlt b j hs) hsz
        · rcases hS b j hs with h | h
          · exact Nat.lt_of_lt_of_le (hlt b j h) hsz
          · exact h.2

theorem leaves_ok {P : Program} {N : Nat} {fn : Func} {w : World} {S : Cells} {H : Heap} {β : Bl} {tmps : Array Value} {R : Ending → World → Prop} {H' : Heap} {e' : Env} : ∀ (ds : List Deferred) (w' : World) (S' : Cells) (β' : Bl), Ext w S H β w' S' H' β' → Rel w' S' H' β' → AgreeA N w.heap.size w' S' H' β' e' ⟨tmps, ds⟩ →
    (∀ w' S' β', Ext w S H β w' S' H' β' → Rel w' S' H' β' → AgreeA N w.heap.size w' S' H' β' e' ⟨tmps, []⟩ → ∃ u, (results fn tmps).run P w' = .ok u w' ∧ R (.returned u) w') → LeavesInM Fence.wide 0 P fn tmps R ds .returning w' := by
  intro ds
  induction ds with
  | nil => exact fun w' S' β' hE hR hA hQ => hQ w' S' β' hE hR hA
  | cons d ds ih =>
    intro w' S' β' hE hR hA hQ
    obtain ⟨D, h1, h2, h3⟩ := hA.1.2.2 d (by simp)
    refine ⟨by simp, .inl ⟨D, _, by rw [h1], run_takeDeferred h3, ?_⟩⟩
    have hs := Stay.put (o' := .deferred none) (S := S') h3 rfl rfl
    refine ih _ S' β' (hE.put h3 rfl rfl h2) (hR.put h3 rfl rfl) ⟨⟨by rw [World.putObj_size]; exact hA.1.1, (List.pairwise_cons.1 hA.1.2.1).2, fun d' hd' => ?_⟩, hA.2.1, hA.2.2.mono hs (Grow.refl _ _)⟩ hQ
    obtain ⟨D', h4, h5, h6⟩ := hA.1.2.2 d' (by simp [hd'])
    refine ⟨D', h4, h5, (World.putObj_heap_other fun e => ?_).trans h6⟩
    exact (List.pairwise_cons.1 hA.1.2.1).1 d' hd' (by rw [h1, h4, e])

theorem fun_ok [Orc] {P : Program} (ho : OrcOk P) (hq : SeqOk P) (hD : ∀ call, CallOk P call → DrawFine P call drawOk) (hm : P.follows .mixedOrders = true) : ∀ k, CallOk P (funRun P k) := by
  intro k
  induction k with
  | zero => intro f args H v H' h _; simp [funRun] at h
  | succ k ih =>
    intro f args H v H' h hnd
    simp only [funRun] at h
    by_cases hoc : Orc.has f = true
    · rw [if_pos hoc] at h; exact ho f args H v H' hoc h hnd
    rw [if_neg hoc] at h
    cases hfn : P.funcs[f]? with
    | none => simp [hfn] at h
    | some fn =>
      simp only [hfn] at h
      split at h
      rotate_left
      · cases h
      rename_i hfo
      cases hb : fn.body with
      | none => simp [hb] at h
      | some c =>
        simp only [hb] at h
        simp only [fnOk, hb, Bool.and_eq_true, Bool.not_eq_true'] at hfo
        refine ⟨⟨fn, rfl, by simp [hb], hfo.2⟩, fun w S β us hR hl hv => ?_⟩
        refine callsIn_wide.1 (callsIn_of_wp_marks (n := 0) hfn hb trivial ?_)
        have hA : AgreeA fn.ntmps w.heap.size w S H β (enter args) { tmps := us.toArray ++ Array.replicate (fn.ntmps - us.toArray.size) undef, defers := [] } := by
          have hsz : fn.ntmps ≤ (us.toArray ++ Array.replicate (fn.ntmps - us.toArray.size) undef).size := by
            rw [Array.size_append, Array.size_replicate]
            generalize us.toArray.size = z
            generalize fn.ntmps = y
            omega
          refine ⟨⟨Nat.le_refl _, List.Pairwise.nil, fun d hd => by cases hd⟩, hsz, fun x y hx => ?_⟩
          cases x with
          | tmp t =>
            simp only [ev, enter, Option.some.injEq] at hx
            by_cases ht : t < args.length
            · have ht' : t < us.length := by rw [← hl]; exact ht
              rw [List.getElem?_eq_getElem ht] at hx
              simp only [Option.getD_some] at hx; subst hx
              have e1 : (us.toArray ++ Array.replicate (fn.ntmps - us.toArray.size) undef).getD t undef = us[t] := by
                rw [Array.getD_eq_getD_getElem?, Array.getElem?_append_left (by simpa using ht')]
                simp [ht']
              simp only [Act.eval, e1]
              exact hv t ht ht'
            · rw [List.getElem?_eq_none (Nat.le_of_not_lt ht)] at hx
              simp only [Option.getD_none] at hx; subst hx
              have e1 : (us.toArray ++ Array.replicate (fn.ntmps - us.toArray.size) undef).getD t undef = undef := by
                rw [Array.getD_eq_getD_getElem?, Array.getElem?_append_right (by rw [List.size_toArray, ← hl]; exact Nat.le_of_not_lt ht)]
                rw [Array.getElem?_replicate]
                split <;> rfl
              simp only [Act.eval, e1]
              exact .dead
          | const c =>
            exact ofVal_rv hx
          | func f =>
            simp only [ev, Option.some.injEq] at hx; subst hx
            exact .t _ _ (.fn f)
          | global g => simp [ev] at hx
        have fin : ∀ (e' : Env) (H1 : Heap) (vs : List V), resVs P e' H1 fn.results.toList = some vs → v = one vs → H1 = H' → ∀ a' w' S' β', Ext w S H β w' S' H1 β' → Rel w' S' H1 β' → AgreeA fn.ntmps w.heap.size w' S' H1 β' e' a' →
            ∃ u, (results fn a'.tmps).run P w' = .ok u w' ∧ Back w S H β v H' (.returned u) w' := by
          intro e' H1 vs hvs hv1 hH a' w' S' β' hE hR' hA'
          subst hH
          have hres : ∃ us' : List Value, (results fn a'.tmps).run P w' = .ok (if h : us'.toArray.size = 1 then us'.toArray[0] else .tuple us'.toArray) w' ∧ vs.length = us'.length ∧ ∀ i (hi : i < vs.length) (hu : i < us'.length), RV w' S' H1 β' vs[i] us'[i] := by
            obtain ⟨us', h1, h2, h3⟩ := res_ok (P := P) hR' hA' (resF a'.tmps) (fun _ => rfl) (fun _ _ => rfl) fn.results.toList vs hvs
            refine ⟨us', ?_, h2, h3⟩
            rw [results_eq, Sem.run_bind, Array.mapM_eq_mapM_toList, map_eq_pure_bind, Sem.run_bind, h1]
            rfl
          obtain ⟨us', hres, h2, h3⟩ := hres
          refine ⟨_, hres, _, S', β', rfl, hE, hR', ?_⟩
          subst hv1
          match vs, us', h2, h3 with
          | [], [], _, _ => exact .tup [] [] rfl fun i hi => by simp at hi
          | [v], [u], _, h3 => exact h3 0 (by simp) (by simp)
          | v :: v2 :: vs, u :: u2 :: us, h2, h3 => 
            rw [dif_neg (by simp)]
            exact .tup _ _ h2 h3
        split at h
        · rename_i e' H1 hrun
          simp only [Option.map_eq_some_iff, Prod.mk.injEq] at h
          obtain ⟨vs, hvs, hv1, hH⟩ := h
          refine code_okIn ih (hD _ ih) hm hq c none 0 w.heap.size _ H .n e' H1 (fun h => absurd rfl h) hrun hfo.1 _ w S β _ hR hA ?_
          intro a' w' S' β' hE hR' hA'
          exact leaves_ok a'.defers w' S' β' hE hR' hA' fun w2 S2 β2 hE2 hR2 hA2 => fin e' H1 vs hvs hv1.symm hH ⟨a'.tmps, []⟩ w2 S2 β2 hE2 hR2 hA2
        · rename_i e' H1 hrun
          simp only [Option.map_eq_some_iff, Prod.mk.injEq] at h
          obtain ⟨vs, hvs, hv1, hH⟩ := h
          refine code_okIn ih (hD _ ih) hm hq c none 0 w.heap.size _ H .ret e' H1 (fun h => absurd rfl h) hrun hfo.1 _ w S β _ hR hA ?_
          intro a' w' S' β' hE hR' hA'
          exact leaves_ok a'.defers w' S' β' hE hR' hA' fun w2 S2 β2 hE2 hR2 hA2 => fin e' H1 vs hvs hv1.symm hH ⟨a'.tmps, []⟩ w2 S2 β2 hE2 hR2 hA2
        · cases h
end Go.Sim

namespace Go.Sim
variable [Base]

theorem evs_congr {e e' : Env} : ∀ {l : List Operand}, (∀ x ∈ l, ev e x = ev e' x) → evs e l = evs e' l := by
  intro l
  induction l with
  | nil => intro _; rfl
  | cons x l ih =>
    intro h
    simp only [evs]
    rw [h x (by simp), ih fun y hy => h y (by simp [hy])]
theorem evParts_congr {e e' : Env} : ∀ {l : List (Nat × Operand)}, (∀ x ∈ l.map (·.2), ev e x = ev e' x) → evParts e l = evParts e' l := by
  intro l
  induction l with
  | nil => intro _; rfl
  | cons p l ih =>
    intro h
    obtain ⟨i, x⟩ := p
    simp only [evParts]
    rw [h x (by simp), ih fun y hy => h y (by simp only [List.map_cons, List.mem_cons]; exact .inr hy)]
theorem optEv_congr {e e' : Env} {o : Option Operand} (h : ∀ x, o = some x → ev e x = ev e' x) : optEv e o = optEv e' o := by
  cases o with
  | none => rfl
  | some x => simp [optEv, h x rfl]

theorem opC_congr {P : Program} {call : CallFn} {op : Op} {e e' : Env} {H : Heap} (h : ∀ x ∈ op.operands, ev e x = ev e' x) : opRunC P call op e H = opRunC P call op e' H := by
  cases op with
  | call c =>
    obtain ⟨callee, as, ts⟩ := c
    have ha : evs e as.toList = evs e' as.toList := evs_congr fun x hx => h x (by simp [Op.operands, Call.operands] at hx ⊢; exact .inr hx)
    cases callee with
    | value f =>
      have hf : ev e f = ev e' f := h f (by simp [Op.operands, Call.operands])
      simp only [opRunC, hf, ha]
    | builtin b => simp only [opRunC, opRun, ha]
    | invoke r n =>
      have hf : ev e r = ev e' r := h r (by simp [Op.operands, Call.operands])
      simp only [opRunC, hf, ha]
  | build t p =>
    have := evParts_congr (e := e) (e' := e') (l := p.toList) fun x hx => h x (by simpa [Op.operands] using hx)
    simp only [opRunC, opRun, this]
  | buildSlice t n p =>
    have := evParts_congr (e := e) (e' := e') (l := p.toList) fun x hx => h x (by simpa [Op.operands] using hx)
    simp only [opRunC, opRun, this]
  | makeFunc f a b =>
    have h1 := evs_congr (e := e) (e' := e') (l := a.toList) fun x hx => h x (by simp [Op.operands] at hx ⊢; exact .inl hx)
    have h2 := evs_congr (e := e) (e' := e') (l := b.toList) fun x hx => h x (by simp [Op.operands] at hx ⊢; exact .inr hx)
    cases f <;> simp only [opRunC, opRun, h1, h2]
  | slice t x lo hi mx =>
    have h0 : ev e x = ev e' x := h x (by simp [Op.operands])
    have h1 := optEv_congr (e := e) (e' := e') (o := lo) fun y hy => h y (by simp [Op.operands, hy])
    have h2 := optEv_congr (e := e) (e' := e') (o := hi) fun y hy => h y (by simp [Op.operands, hy])
    have h3 := optEv_congr (e := e) (e' := e') (o := mx) fun y hy => h y (by simp [Op.operands, hy])
    simp only [opRunC, opRun, h0, h1, h2, h3]
  | makeMap t q => cases q <;> simp only [opRunC, opRun]
  | lookup t x k c =>
    have h1 := h x (by simp [Op.operands])
    have h2 := h k (by simp [Op.operands])
    cases c <;> simp only [opRunC, opRun, h1, h2]
  | mapUpdate t x k y =>
    have h1 := h x (by simp [Op.operands])
    have h2 := h k (by simp [Op.operands])
    have h3 := h y (by simp [Op.operands])
    simp only [opRunC, opRun, h1, h2, h3]
  | makeInterface t x => simp only [opRunC, opRun, h x (by simp [Op.operands])]
  | typeAssert x u t c =>
    have h1 := h x (by simp [Op.operands])
    cases c <;> simp only [opRunC, opRun, h1]
  | pick c a b =>
    simp only [opRunC, opRun, h c (by simp [Op.operands]), h a (by simp [Op.operands]), h b (by simp [Op.operands])]
  | move x => simp only [opRunC, opRun, h x (by simp [Op.operands])]
  | assign x => simp only [opRunC, opRun, h x (by simp [Op.operands])]
  | box t x => simp only [opRunC, opRun, h x (by simp [Op.operands])]
  | load t x => simp only [opRunC, opRun, h x (by simp [Op.operands])]
  | nilCheck x => simp only [opRunC, opRun, h x (by simp [Op.operands])]
  | unOp o t x => simp only [opRunC, opRun, h x (by simp [Op.operands])]
  | convert s d x => simp only [opRunC, opRun, h x (by simp [Op.operands])]
  | field s x f => simp only [opRunC, opRun, h x (by simp [Op.operands])]
  | fieldAddr s x f => simp only [opRunC, opRun, h x (by simp [Op.operands])]
  | extract x i => simp only [opRunC, opRun, h x (by simp [Op.operands])]
  | store t x y => simp only [opRunC, opRun, h x (by simp [Op.operands]), h y (by simp [Op.operands])]
  | binOp o t x y s => simp only [opRunC, opRun, h x (by simp [Op.operands]), h y (by simp [Op.operands])]
  | makeSlice t x y => simp only [opRunC, opRun, h x (by simp [Op.operands]), h y (by simp [Op.operands])]
  | indexAddr t x y => simp only [opRunC, opRun, h x (by simp [Op.operands]), h y (by simp [Op.operands])]
  | index t x y => simp only [opRunC, opRun, h x (by simp [Op.operands]), h y (by simp [Op.operands])]
  | _ => rfl

def Same (H H' : Heap) (id : Nat) : Prop := ∀ o : Obj, H[id]? = some o → ∃ o' : Obj, H'[id]? = some o' ∧ o'.el = o.el ∧ o'.esz = o.esz

theorem Same.cur {H H' : Heap} {id n : Nat} {o : Obj} (h : Same H H' id) (hc : cur H id n = some o) : ∃ o', Go.Sim.cur H' id n = some o' ∧ o'.el = o.el ∧ o'.esz = o.esz := by
  obtain ⟨h1, h2⟩ := cur_at hc
  obtain ⟨o', h3, h4, h5⟩ := h o h1
  exact ⟨o', by simp [Go.Sim.cur, h3, h4, h2], h4, h5⟩

theorem Same.raise {H H' : Heap} (h : Raise H H') (id : Nat) : Same H H' id := fun o ho => by
  obtain ⟨o', h1, h2, h3, _⟩ := h.2 id o ho
  exact ⟨o', h1, h2, h3⟩
def Light (P : Program) (op : Op) (e : Env) (H : Heap) (r : Res) : Prop :=
  (r.eff = .bad ∧ ∀ id, Same H r.H id) ∨ (r.H = H ∧ (∀ H', (r.eff = .none ∨ ∃ id, r.eff = .load id ∧ Same H H' id) → opRun P op e H' = some ⟨r.v, H', r.eff⟩) ∧
    (r.eff = .none ∨ ∃ id, r.eff = .load id ∧ ∃ x v, ev e x = some v ∧ ((∃ n, v = .ref id n) ∨ ∃ n i off, v = .ptr id n i off)))

theorem Light.none {P : Program} {op : Op} {e : Env} {H : Heap} {v : V} (h : ∀ H', opRun P op e H' = some ⟨v, H', .none⟩) : Light P op e H ⟨v, H, .none⟩ := .inr ⟨rfl, fun H' _ => h H', .inl rfl⟩

theorem toT_0 {v : V} (h : (∃ x, v = .t x) ∨ ∃ xs, v = .ex xs) : ∃ x, ∀ (H : Heap) (d : Nat), toT H d v = some x ∧ hold d H v = H := by
  rcases h with ⟨x, rfl⟩ | ⟨xs, rfl⟩
  · exact ⟨x, fun H d => by cases d <;> exact ⟨rfl, rfl⟩⟩
  · exact ⟨.sl xs, fun H d => by cases d <;> exact ⟨rfl, rfl⟩⟩

theorem zero_toT {P : Program} {t : TypeId} {z : V} (h : zeroV P t = some z) (H H' : Heap) (d : Nat) : toT H d z = toT H' d z := by
  have sc : ∀ (v : Value) (x : V), ofScalar v = some x → ∀ d, toT H d x = toT H' d x := by
    intro v x hx d
    have : (∃ y, x = .t y) ∨ ∃ ys, x = .ex ys := by
      unfold ofScalar at hx
      split at hx <;> first
        | (cases hx; exact .inl ⟨_, rfl⟩)
        | (cases hx; exact .inr ⟨_, rfl⟩)
        | (split at hx <;> first | (cases hx; exact .inl ⟨_, rfl⟩) | cases hx)
        | cases hx
    obtain ⟨y, hy⟩ := toT_0 this
    rw [(hy H d).1, (hy H' d).1]
  unfold zeroV at h
  cases hi : P.info? t with
  | none => simp [hi] at h
  | some i =>
    simp only [hi] at h
    cases hz : i.zero with
    | none => simp [hz] at h
    | some zv =>
      simp only [hz, Option.bind_some] at h
      unfold ofVal at h
      split at h
      · rename_i cs
        cases hm : cs.toList.mapM ofScalar with
        | none => simp [hm] at h
        | some l =>
          simp [hm] at h
          subst h
          obtain ⟨h1, h2⟩ := mapM_some hm
          unfold mkAgg
          split
          · cases d <;> rfl
          · cases d with
            | zero => rfl
            | succ d =>
              simp only [toT]
              have : l.mapM (toT H d) = l.mapM (toT H' d) := by
                have hall : ∀ x ∈ l, toT H d x = toT H' d x := by
                  intro x hx
                  obtain ⟨i, hi, rfl⟩ := List.mem_iff_getElem.1 hx
                  exact sc _ _ (h2 i (by omega) hi) d
                clear h2 hm h1
                rename_i hnone; clear hnone
                induction l with
                | nil => rfl
                | cons x l ih =>
                  rw [List.mapM_cons, List.mapM_cons, hall x (by simp), ih fun y hy => hall y (by simp [hy])]
              rw [this]
      · exact sc _ _ h d

theorem lenT_light {H : Heap} {kd : Kd} {x : V} {r : Res} (h : lenT H kd x = some r) : r.H = H ∧ (r.eff = .bad ∨ (r.eff = .none ∧ ∀ H', lenT H' kd x = some ⟨r.v, H', .none⟩) ∨ ∃ id, r.eff = .load id ∧ (∃ n, x = .ref id n) ∧ ∀ H', Same H H' id → lenT H' kd x = some ⟨r.v, H', .load id⟩) := by
  cases kd with
  | str =>
    cases x with
    | t x =>
      cases x with
      | str s => simp only [lenT, ret, Option.some.injEq] at h; subst h; exact ⟨rfl, .inr (.inl ⟨rfl, fun H' => rfl⟩)⟩
      | _ => simp [lenT] at h
    | _ => simp [lenT] at h
  | sl el =>
    cases x with
    | t x =>
      cases x with
      | sl xs => simp only [lenT, lenOf, effL, Option.bind_some, Option.some.injEq] at h; subst h; exact ⟨rfl, .inr (.inl ⟨rfl, fun H' => rfl⟩)⟩
      | _ => simp [lenT, lenOf] at h
    | ex x => simp only [lenT, lenOf, effL, Option.bind_some, Option.some.injEq] at h; subst h; exact ⟨rfl, .inr (.inl ⟨rfl, fun H' => rfl⟩)⟩
    | ref id m =>
      simp only [lenT, lenOf, effL] at h
      cases hc : cur H id m with
      | none => simp [hc] at h
      | some o =>
        simp [hc] at h; subst h
        refine ⟨rfl, .inr (.inr ⟨id, rfl, ⟨_, rfl⟩, fun H' hs => ?_⟩)⟩
        obtain ⟨o', h1, _, _⟩ := hs.cur hc
        simp [lenT, lenOf, effL, h1]
    | _ => simp [lenT, lenOf] at h
  | map =>
    cases x with
    | t x => cases x <;> first | (simp [lenT] at h; done) | (simp only [lenT, Option.some.injEq] at h; subst h; exact ⟨rfl, .inr (.inl ⟨rfl, fun H' => rfl⟩)⟩)
    | mp id =>
      simp only [lenT, Option.bind_eq_some_iff] at h
      obtain ⟨o, _, ks, _, h⟩ := h
      cases h; exact ⟨rfl, .inl rfl⟩
    | _ => simp [lenT] at h
  | _ => simp [lenT] at h

theorem light_ok {P : Program} {op : Op} {e : Env} {H : Heap} {r : Res} (hl : lightOp op = true) (h : opRun P op e H = some r) : Light P op e H r := by
  cases op with
  | move x =>
    cases hx : ev e x with
    | none => simp [opRun, hx] at h
    | some v => simp [opRun, hx, ret] at h; subst h; exact .none fun H' => by simp [opRun, hx, ret]
  | assign x =>
    cases hx : ev e x with
    | none => simp [opRun, hx] at h
    | some v => simp [opRun, hx, ret] at h; subst h; exact .none fun H' => by simp [opRun, hx, ret]
  | pick c a b =>
    simp only [opRun] at h
    split at h
    · rename_i hc
      cases hx : ev e a with
      | none => simp [hx] at h
      | some v => simp [hx, ret] at h; subst h; exact .none fun H' => by simp [opRun, hc, hx, ret]
    · rename_i hc
      cases hx : ev e b with
      | none => simp [hx] at h
      | some v => simp [hx, ret] at h; subst h; exact .none fun H' => by simp [opRun, hc, hx, ret]
    · cases h
  | load t x =>
    simp only [opRun] at h
    cases hx : ev e x with
    | none => simp [hx] at h
    | some v =>
      simp only [hx, Option.bind_some] at h
      unfold loadV at h
      split at h
      · rename_i a sz id n i off hty
        cases hc : cur H id n with
        | none => simp [hc] at h
        | some o =>
          simp only [hc, Option.bind_some] at h
          cases hi : o.el[i]? with
          | none => simp [hi] at h
          | some y =>
            cases hr : rdV y o.esz off a sz with
            | none => simp [hi, hr] at h
            | some u =>
              simp [hi, hr] at h; subst h
              refine .inr ⟨rfl, fun H' hh => ?_, .inr ⟨id, rfl, x, _, hx, .inr ⟨_, _, _, rfl⟩⟩⟩
              rcases hh with hh | ⟨id', hid, hs⟩
              · cases hh
              · cases hid
                obtain ⟨o', h1, h2, h3⟩ := hs.cur hc
                simp [opRun, hx, loadV, hty, h1, h2, h3, hi, hr]
      · rename_i a sz xs i off hty
        cases hi : xs[i]? with
        | none => simp [hi] at h
        | some y =>
          cases hr : rdV (.t y) y.cells.length off a sz with
          | none => simp [hi, hr] at h
          | some u =>
            simp [hi, hr] at h; subst h
            exact .none fun H' => by simp [opRun, hx, loadV, hty, hi, hr]
      · cases h
  | nilCheck x =>
    simp only [opRun] at h
    split at h <;> first
      | (rename_i hx; simp [ret] at h; subst h; exact .none fun H' => by simp [opRun, hx, ret])
      | cases h
  | binOp o t x y s =>
    simp only [opRun] at h
    split at h
    · rename_i a b hx hy
      cases hc : binV P o t a b with
      | none => simp [hc] at h
      | some c => simp [hc, ret] at h; subst h; exact .none fun H' => by simp [opRun, hx, hy, hc, ret]
    · cases h
  | unOp o t x =>
    simp only [opRun] at h
    split at h
    · rename_i a hx
      cases hc : unT o a with
      | none => simp [hc] at h
      | some c => simp [hc, ret] at h; subst h; exact .none fun H' => by simp [opRun, hx, hc, ret]
    · cases h
  | convert s d x =>
    simp only [opRun] at h
    cases hx : ev e x with
    | none => simp [hx] at h
    | some v =>
      simp only [hx, Option.bind_some] at h
      have key : r.H = H ∧ r.eff = .none ∧ ∀ H', convV P (kdOf P s) (kdOf P d) v H' = some ⟨r.v, H', .none⟩ := by
        unfold convV at h
        split at h
        · rename_i h1 h2; simp [ret] at h; subst h; exact ⟨rfl, rfl, fun H' => by rw [h1, h2]; rfl⟩
        · rename_i h1 h2; simp [ret] at h; subst h; exact ⟨rfl, rfl, fun H' => by rw [h1, h2]; rfl⟩
        · rename_i el xs h1 h2
          split at h
          · rename_i h3
            cases hb : bytesT xs with
            | none => simp [hb] at h
            | some b => simp [hb, ret] at h; subst h; exact ⟨rfl, rfl, fun H' => by rw [h1, h2]; simp only [convV]; rw [if_pos h3, hb]; rfl⟩
          · cases h
        · cases h
      obtain ⟨v', H', f⟩ := r
      obtain ⟨rfl, rfl, h3⟩ := key
      exact .none fun H' => by simp [opRun, hx, h3]
  | makeFunc f a b =>
    cases f with
    | func f =>
      simp only [opRun] at h
      split at h
      · rename_i h1 h2; simp [ret] at h; subst h; exact .none fun H' => by simp [opRun, h1, h2, ret]
      · rename_i va vb hn h1 h2
        simp [ret] at h; subst h
        refine .none fun H' => ?_
        simp only [opRun, h1, h2]
        rfl
      · cases h
    | _ => simp [opRun] at h
  | build t p =>
    simp only [opRun] at h
    split at h
    · rename_i l hl
      cases hb : buildV P t l with
      | none => simp [hb] at h
      | some v => simp [hb, ret] at h; subst h; exact .none fun H' => by simp [opRun, hl, hb, ret]
    · cases h
  | field s x f =>
    simp only [opRun] at h
    cases hx : ev e x with
    | none => simp [hx] at h
    | some v =>
      cases hf : fieldC (fld1 P s f) v with
      | none => simp [hx, hf] at h
      | some u => simp [hx, hf, ret] at h; subst h; exact .none fun H' => by simp [opRun, hx, hf, ret]
  | fieldAddr s x f =>
    simp only [opRun] at h
    cases hx : ev e x with
    | none => simp [hx] at h
    | some v =>
      cases hf : fieldV (fldOf P s f) v with
      | none => simp [hx, hf] at h
      | some u => simp [hx, hf, ret] at h; subst h; exact .none fun H' => by simp [opRun, hx, hf, ret]
  | index t x i =>
    simp only [opRun] at h
    split at h
    · rename_i h1 h2 h3
      split at h
      · rename_i hh; simp [ret] at h; subst h; exact .none fun H' => by simp [opRun, h1, h2, h3, hh, ret]
      · cases h
    · rename_i len el cs n h1 h2 h3
      split at h
      · rename_i hh
        cases hc : cs[n.toNat]? with
        | none => simp [hc] at h
        | some y => simp [hc, ret] at h; subst h; exact .none fun H' => by simp only [opRun, h1, h2, h3]; rw [if_pos hh, hc]; rfl
      · cases h
    · rename_i len el cs n h1 h2 h3
      split at h
      · rename_i hh
        cases hc : cs[n.toNat]? with
        | none => simp [hc] at h
        | some y => simp [hc, ret] at h; subst h; exact .none fun H' => by simp only [opRun, h1, h2, h3]; rw [if_pos hh, hc]; rfl
      · cases h
    · cases h
  | extract x i =>
    simp only [opRun] at h
    split at h
    · rename_i vs hx
      cases hi : vs[i]? with
      | none => simp [hi] at h
      | some v => simp [hi, ret] at h; subst h; exact .none fun H' => by simp [opRun, hx, hi, ret]
    · rename_i vs hx
      cases hi : vs[i]? with
      | none => simp [hi] at h
      | some v => simp [hi, ret] at h; subst h; exact .none fun H' => by simp [opRun, hx, hi, ret]
    · cases h
  | indexAddr t x i =>
    simp only [opRun] at h
    cases hx : ev e x with
    | none => simp [hx] at h
    | some v =>
      cases hn : (ev e i).bind asInt with
      | none => simp [hx, hn] at h
      | some n =>
        simp only [hx, hn, Option.bind_some] at h
        cases hq : indexV H (kdOf P t) (elemSz P (kdOf P t)) v n with
        | none => simp [hq] at h
        | some u =>
          simp [hq] at h; subst h
          have from_ : effP u = .none ∨ ∃ id, effP u = .load id ∧ ∃ x v, ev e x = some v ∧ ((∃ n, v = .ref id n) ∨ ∃ n i off, v = .ptr id n i off) := by
            unfold indexV at hq
            split at hq
            · simp only [Option.bind_eq_some_iff] at hq
              obtain ⟨_, _, hq⟩ := hq
              split at hq
              · cases hq; exact .inl rfl
              · cases hq
            · simp only [Option.bind_eq_some_iff] at hq
              obtain ⟨_, _, hq⟩ := hq
              split at hq
              · cases hq; exact .inl rfl
              · cases hq
            · simp only [Option.bind_eq_some_iff] at hq
              obtain ⟨_, _, hq⟩ := hq
              split at hq
              · cases hq; exact .inr ⟨_, rfl, x, _, hx, .inl ⟨_, rfl⟩⟩
              · cases hq
            · split at hq
              · cases hq; exact .inr ⟨_, rfl, x, _, hx, .inr ⟨_, _, _, rfl⟩⟩
              · cases hq
            · split at hq
              · cases hq; exact .inl rfl
              · cases hq
            · cases hq
          refine .inr ⟨rfl, fun H' hh => ?_, from_⟩
          have key : indexV H' (kdOf P t) (elemSz P (kdOf P t)) v n = some u := by
            unfold indexV at hq ⊢
            generalize hkd : kdOf P t = kd at hq ⊢
            cases kd with
            | sl el =>
              cases v with
              | ref id m =>
                simp only at hq ⊢
                cases hc : cur H id m with
                | none => simp [hc] at hq
                | some o =>
                  simp only [hc, Option.bind_some] at hq
                  split at hq
                  · rename_i hcond
                    cases hq
                    rcases hh with hh | ⟨id', hid, hs⟩
                    · simp [effP] at hh
                    · simp only [effP, Eff.load.injEq] at hid
                      subst hid
                      obtain ⟨o', h1, h2, h3⟩ := hs.cur hc
                      simp [h1, h3, hcond]
                  · cases hq
              | t x => cases x <;> exact hq
              | _ => exact hq
            | arr k el => cases v <;> exact hq
            | _ => cases v <;> exact hq
          simp [opRun, hx, hn, key]
  | makeInterface t x =>
    simp only [opRun] at h
    split at h
    · rename_i hs
      simp only [Option.bind_eq_some_iff] at h
      obtain ⟨v, hx, u, hi, h⟩ := h
      simp [ret] at h; subst h
      exact .none fun H' => by simp [opRun, hs, hx, hi, ret]
    · cases h
  | slice t x lo hi mx =>
    simp only [opRun] at h
    by_cases hct : cutTy P t = true
    · exfalso
      rw [if_pos hct] at h
      simp only [Option.bind_eq_some_iff] at h
      obtain ⟨v, _, l, h1, hh, h2, m, h3, h⟩ := h
      unfold cutR at h
      split at h
      · have none_of : ∀ {o : Option Operand}, optEv e o = some none → o = none := by
          intro o ho
          cases o with
          | none => rfl
          | some q => simp only [optEv] at ho; cases hq : ev e q <;> simp [hq] at ho
        obtain rfl := none_of h1
        obtain rfl := none_of h3
        cases hi with
        | none => simp [optEv] at h2
        | some y => simp [lightOp] at hl
      · cases h
    rw [if_neg hct] at h
    split at h
    · rename_i s vl vh vm hk hx hl' hh hm
      unfold partS at h
      split at h
      · rename_i l hn hbl hbh
        split at h
        · rename_i hc
          simp [ret] at h; subst h
          exact .none fun H' => by simp [opRun, hct, hk, hx, hl', hh, hm, partS, hbl, hbh, hc, ret]
        · cases h
      · cases h
    · rename_i el v vl vh vm hk hx hl' hh hm
      have hr : r.eff = effS v := by
        unfold partV at h
        split at h
        · split at h
          · split at h
            · cases h; rfl
            · cases h
          · cases h
        · cases h
      by_cases hd : (∃ x, v = .t x) ∨ ∃ xs, v = .ex xs
      · obtain ⟨x0, h0⟩ := toT_0 hd
        have hsl : ∀ H', slOf H' v = slOf H v := by
          intro H'
          rcases hd with ⟨x1, rfl⟩ | ⟨xs, rfl⟩
          · cases x1 <;> rfl
          · rfl
        have hre : r.H = H := by
          unfold partV at h
          split at h
          · split at h
            · split at h
              · cases h; exact (h0 H depth).2
              · cases h
            · cases h
          · cases h
        refine .inr ⟨hre, fun H' _ => ?_, .inl (by rw [hr]; rcases hd with ⟨x, rfl⟩ | ⟨x, rfl⟩ <;> rfl)⟩
        have hp : partV H' (elemSz P (.sl el)) v vl vh vm = some ⟨r.v, H', r.eff⟩ := by
          unfold partV at h ⊢
          rw [hsl H', (h0 H' depth).1, (h0 H' depth).2]
          rw [(h0 H depth).1, (h0 H depth).2] at h
          generalize slOf H v = sv at h ⊢
          cases sv with
          | none => simp at h
          | some a =>
            cases x0 with
            | sl xs0 =>
              simp only at h ⊢
              generalize bound vl 0 = b1 at h ⊢
              generalize bound vh a.length = b2 at h ⊢
              generalize bound vm a.length = b3 at h ⊢
              cases b1 <;> cases b2 <;> cases b3 <;> simp only at h ⊢ <;> first
                | (cases h; done)
                | (split at h
                   · rename_i hc
                     rw [if_pos hc]
                     cases h; rfl
                   · cases h)
            | _ => simp at h
        simp only [opRun, hct, if_false, hk, hx, hl', hh, hm]
        exact hp
      · left
        refine ⟨?_, fun id => ?_⟩
        · rw [hr]
          cases v with
          | t x => exact absurd (.inl ⟨x, rfl⟩) hd
          | ex x => exact absurd (.inr ⟨x, rfl⟩) hd
          | _ => rfl
        · unfold partV at h
          split at h
          · split at h
            · split at h
              · cases h; exact Same.raise (hold_raise _ _ _) id
              · cases h
            · cases h
          · cases h
    · rename_i hl1 hh1 hm1
      exfalso
      have none_of : ∀ {o : Option Operand}, optEv e o = some none → o = none := by
        intro o ho
        cases o with
        | none => rfl
        | some q => simp only [optEv] at ho; cases hq : ev e q <;> simp [hq] at ho
      have e1 := none_of hl1
      have e2 := none_of hh1
      have e3 := none_of hm1
      rw [e1, e2, e3] at hl
      cases hl
    · cases h
  | buildSlice t n p =>
    simp only [opRun] at h
    split at h
    · rename_i el hk
      have hn0 : nilL n p.toList = false ∧ liveL n p.toList = false := by simpa [lightOp] using hl
      obtain ⟨hn, hn2⟩ := hn0
      rw [if_neg (by rw [hn]; simp), show liveOf P el n p.toList (evParts e p.toList) = none by unfold liveOf; rw [hn2]; rfl] at h
      simp only [litR] at h
      cases hl' : evParts e p.toList with
      | none => simp [hl'] at h
      | some l =>
        cases hz : zeroV P el with
        | none => simp [hl', hz] at h
        | some z =>
          cases hie : infoOf P el with
          | none => simp [hl', hz, hie] at h
          | some i =>
            cases hz' : toT H depth z with
            | none => simp [hl', hz, hie, hz'] at h
            | some z' =>
              simp only [hl', hz, hie, hz', Option.bind_some] at h
              split at h
              · rename_i hc
                cases hlit : litV H (List.replicate n z') l with
                | none => simp [hlit] at h
                | some xs =>
                  simp only [hlit, Option.bind_some, Option.some.injEq] at h
                  subst h
                  by_cases hd : ∀ q ∈ l, (∃ x, q.2 = .t x) ∨ ∃ xs, q.2 = .ex xs
                  · have hfold : ∀ H, (l.map (·.2)).foldl (hold depth) H = H := by
                      intro H
                      clear hlit hc hl'
                      induction l generalizing H with
                      | nil => rfl
                      | cons q l ih =>
                        simp only [List.map_cons, List.foldl_cons]
                        obtain ⟨x, hx⟩ := toT_0 (hd q (by simp))
                        rw [(hx H depth).2]
                        exact ih (fun q hq => hd q (by simp [hq])) H
                    have heff : effB (l.map (·.2)) = .none := by
                      clear hlit hc hl' hfold
                      induction l with
                      | nil => rfl
                      | cons q l ih =>
                        have := ih (fun q hq => hd q (by simp [hq]))
                        rcases hd q (by simp) with ⟨x, hx⟩ | ⟨x, hx⟩ <;> simp only [List.map_cons, hx, effB] <;> exact this
                    have hlit2 : ∀ H', litV H' (List.replicate n z') l = litV H (List.replicate n z') l := by
                      intro H'
                      clear hlit hc hl' hfold heff
                      generalize List.replicate n z' = acc
                      induction l generalizing acc with
                      | nil => rfl
                      | cons q l ih =>
                        obtain ⟨i, v⟩ := q
                        obtain ⟨x, hx⟩ := toT_0 (hd (i, v) (by simp))
                        simp only at hx
                        simp only [litV, (hx H' depth).1, (hx H depth).1, Option.bind_some]
                        split
                        · exact ih (fun q hq => hd q (by simp [hq])) _
                        · rfl
                    have hz2 : ∀ H', toT H' depth z = some z' := fun H' => by rw [← hz']; exact zero_toT hz H' H depth
                    refine .inr ⟨hfold H, fun H' _ => ?_, .inl heff⟩
                    simp only [opRun, if_false, hk, hn, Bool.false_and, Bool.false_eq_true, if_false, show ∀ y, liveOf P el n p.toList y = none from fun y => by unfold liveOf; rw [hn2]; rfl, litR, hl', hz, hie, hz2 H', Option.bind_some]
                    rw [if_pos hc, hlit2 H', hlit, hfold H']
                    rfl
                  · left
                    refine ⟨?_, fun id => Same.raise (fold_raise _ _ _) id⟩
                    show effB (l.map (·.2)) = .bad
                    clear hlit hc hl'
                    induction l with
                    | nil => exact absurd (fun q hq => by cases hq) hd
                    | cons q l ih =>
                      by_cases hq : (∃ x, q.2 = .t x) ∨ ∃ xs, q.2 = .ex xs
                      · have h1 : ¬ ∀ q ∈ l, (∃ x, q.2 = .t x) ∨ ∃ xs, q.2 = .ex xs := fun hh => hd fun q' hq' => by
                          rcases List.mem_cons.1 hq' with rfl | h2
                          · exact hq
                          · exact hh q' h2
                        have := ih h1
                        rcases hq with ⟨x, hx⟩ | ⟨x, hx⟩ <;> simp only [List.map_cons, hx, effB] <;> exact this
                      · obtain ⟨i, v⟩ := q
                        simp only [List.map_cons]
                        cases v with
                        | t x => exact absurd (.inl ⟨x, rfl⟩) hq
                        | ex x => exact absurd (.inr ⟨x, rfl⟩) hq
                        | _ => rfl
              · cases h
    · cases h
  | call c =>
    obtain ⟨callee, as, ts⟩ := c
    cases callee with
    | builtin b =>
      cases b with
      | len =>
        simp only [opRun] at h
        generalize hev : evs e as.toList = q at h
        split at h
        · rename_i x hb
          cases ht : ts[0]? with
          | none => simp [ht] at h
          | some t =>
            simp only [ht, Option.bind_some] at h
            have := lenT_light h
            obtain ⟨o, ho, hv⟩ := evs_one hev
            rcases this with ⟨h1, hbad | ⟨h2, h3⟩ | ⟨id, h2, h4, h3⟩⟩
            · exact .inl ⟨hbad, fun id => by rw [h1]; exact fun o ho => ⟨o, ho, rfl, rfl⟩⟩
            · refine .inr ⟨h1, fun H' _ => ?_, .inl h2⟩
              simp only [opRun, hev, ht, Option.bind_some, h3 H', h2]
            · refine .inr ⟨h1, fun H' hh => ?_, .inr ⟨id, h2, o, x, hv, .inl h4⟩⟩
              rcases hh with hh | ⟨id', hid, hs⟩
              · rw [h2] at hh; cases hh
              · rw [h2] at hid; cases hid
                simp only [opRun, hev, ht, Option.bind_some, h3 H' hs, h2]
        all_goals first | (rename_i hb; cases hb; done) | cases h
      | min =>
        simp only [opRun] at h
        generalize hev : evs e as.toList = q at h
        split at h <;> first | (cases h; done) | (rename_i hb; cases hb; done) | skip
        split at h
        · rename_i hk
          simp [ret] at h; subst h
          exact .none fun H' => by simp [opRun, hev, hk, ret]
        · cases h
      | max =>
        simp only [opRun] at h
        generalize hev : evs e as.toList = q at h
        split at h <;> first | (cases h; done) | (rename_i hb; cases hb; done) | skip
        split at h
        · rename_i hk
          simp [ret] at h; subst h
          exact .none fun H' => by simp [opRun, hev, hk, ret]
        · cases h
      | _ => simp [lightOp] at hl
    | _ => simp [lightOp] at hl
  | _ => simp [lightOp] at hl
end Go.Sim

namespace Go.Sim
variable [Base]

theorem Same.of_eq {H H' : Heap} {id : Nat} (h : H'[id]? = H[id]?) : Same H H' id := fun o ho => ⟨o, by rw [h]; exact ho, rfl, rfl⟩
theorem Same.refl (H : Heap) (id : Nat) : Same H H id := fun o h => ⟨o, h, rfl, rfl⟩
theorem Same.trans {H H1 H2 : Heap} {id : Nat} (h : Same H H1 id) (k : Same H1 H2 id) : Same H H2 id := fun o ho => by
  obtain ⟨o1, h1, e1, z1⟩ := h o ho
  obtain ⟨o2, h2, e2, z2⟩ := k o1 h1
  exact ⟨o2, h2, e2.trans e1, z2.trans z1⟩
theorem Same.push (H : Heap) (o : Obj) (id : Nat) : Same H (H ++ [o]) id := fun o' h => by
  have hl : id < H.length := by
    rcases Nat.lt_or_ge id H.length with h' | h'
    · exact h'
    · rw [List.getElem?_eq_none h'] at h; cases h
  exact ⟨o', by rw [List.getElem?_append_left hl]; exact h, rfl, rfl⟩
theorem Same.set {H : Heap} {id id' : Nat} (o : Obj) (h : id' ≠ id) : Same H (H.set id' o) id := fun o' ho => ⟨o', by rw [List.getElem?_set_ne h]; exact ho, rfl, rfl⟩

theorem import_same (H : Heap) (u : V) (id : Nat) : Same H (importV H u).2 id := by
  cases u with
  | fr e s xs => exact Same.push _ _ _
  | _ => exact Same.refl _ _

theorem light_refl {P : Program} {op : Op} {e : Env} {H : Heap} {r : Res} (hl : lightOp op = true) (h : opRun P op e H = some r) (id : Nat) : Same H r.H id := by
  rcases light_ok hl h with h1 | ⟨h1, _⟩
  · exact h1.2 id
  · rw [h1]; exact Same.refl _ _

theorem keeps_ok {P : Program} {call : CallFn} {op : Op} {e : Env} {H : Heap} {r : Res} (h : opRunC P call op e H = some r) (id : Nat) (hg : r.eff ≠ .grow id) (hw : r.eff ≠ .wild) (hn : ∀ H0 H1, r.eff = .ran H0 H1 → H1[id]? = H0[id]?) : Same H r.H id := by
  by_cases hl : lightOp op = true
  · have h' : opRun P op e H = some r := by
      cases op with
      | call c => obtain ⟨callee, as, ts⟩ := c; cases callee <;> first | exact h | simp [lightOp] at hl
      | _ => exact h
    exact light_refl hl h' id
  · cases op with
    | alloc t =>
      simp only [opRunC, opRun] at h
      split at h
      · split at h
        · cases h; exact Same.push _ _ _
        · cases h
      · cases h
    | box t x =>
      simp only [opRunC, opRun] at h
      split at h
      · split at h
        · cases h; exact Same.push _ _ _
        · cases h
      · cases h
    | store t x y =>
      simp only [opRunC, opRun] at h
      split at h
      · unfold storeV at h
        split at h
        · simp only [Option.bind_eq_some_iff] at h
          obtain ⟨_, _, _, _, h⟩ := h
          split at h
          · simp only [Option.bind_eq_some_iff] at h
            obtain ⟨_, _, h⟩ := h
            cases h
            exact Same.set _ (fun e => hg (by rw [e]))
          · cases h
        · cases h
      · cases h
    | buildSlice t n p =>
      simp only [opRunC, opRun] at h
      split at h
      · split at h
        · cases h; exact Same.push _ _ _
        · rename_i hnb
          unfold litR at h
          split at h
          · cases h; exact Same.push _ _ _
          simp only [Option.bind_eq_some_iff] at h
          obtain ⟨l, _, z, _, i, _, z', _, h⟩ := h
          split at h
          · obtain ⟨xs, _, h⟩ := Option.bind_eq_some_iff.1 h
            cases h
            exact Same.raise (fold_raise _ _ _) _
          · cases h
      · cases h
    | makeSlice t l c =>
      simp only [opRunC, opRun] at h
      split at h
      · unfold makeV at h
        split at h
        · simp only [Option.bind_eq_some_iff] at h
          obtain ⟨_, _, _, _, h⟩ := h
          split at h
          · cases h; exact Same.push _ _ _
          · cases h
        · cases h
      · cases h
    | slice t x lo hi mx =>
      have h' : opRun P (.slice t x lo hi mx) e H = some r := h
      simp only [opRun] at h'
      by_cases hct : cutTy P t = true
      · exfalso
        rw [if_pos hct] at h'
        simp only [Option.bind_eq_some_iff] at h'
        obtain ⟨v, _, l, _, hh, _, m, _, h'⟩ := h'
        unfold cutR at h'
        split at h'
        · unfold cutV at h'
          simp only [Option.bind_eq_some_iff] at h'
          obtain ⟨o, _, h'⟩ := h'
          split at h'
          · cases h'; exact hw rfl
          · cases h'
        · cases h'
      rw [if_neg hct] at h'
      split at h'
      · unfold partS at h'
        split at h'
        · split at h'
          · simp [ret] at h'; subst h'; exact Same.refl _ _
          · cases h'
        · cases h'
      · unfold partV at h'
        split at h'
        · split at h'
          · split at h'
            · cases h'
              exact Same.raise (hold_raise _ _ _) _
            · cases h'
          · cases h'
        · cases h'
      · unfold arrSl at h'
        simp only [Option.bind_eq_some_iff] at h'
        obtain ⟨o, hc, v, _, xs, _, h'⟩ := h'
        split at h'
        · cases h'
          exact Same.raise (Raise.set (cur_at hc).1) _
        · cases h'
      · cases h'
    | call c =>
      obtain ⟨callee, as, ts⟩ := c
      cases callee with
      | value f =>
        have hr0 : ∀ {fid vs}, heapRun call fid vs H = some r → Same H r.H id := by
          intro fid vs hc
          unfold heapRun at hc
          split at hc
          · split at hc
            · cases hc
            · simp only [Option.some.injEq] at hc; subst hc; exact Same.of_eq (hn _ _ rfl)
          · cases hc
        have key : ∀ fid vs, callRun P call fid vs H = some r → Same H r.H id := by
          intro fid vs hc
          unfold callRun at hc
          split at hc
          · split at hc
            · split at hc
              · exact hr0 hc
              split at hc
              · simp only [Option.some.injEq] at hc; subst hc
                refine Same.trans ?_ (import_same _ _ _)
                split
                · exact Same.refl _ _
                · exact Same.raise (fold_raise _ _ _) _
              · cases hc
            · cases hc
          · exact hr0 hc
        simp only [opRunC] at h
        split at h
        · exact key _ _ h
        · exact key _ _ h
        · cases h
      | builtin b =>
        simp only [opRunC, opRun] at h
        split at h
        · exact absurd rfl hl
        · -- append
          simp only [Option.bind_eq_some_iff] at h
          obtain ⟨_, _, _, _, h⟩ := h
          split at h
          · simp only [Option.bind_eq_some_iff] at h
            obtain ⟨ys, _, h⟩ := h
            unfold appendV at h
            simp only [Option.bind_eq_some_iff] at h
            obtain ⟨p, _, h⟩ := h
            split at h
            · split at h
              · split at h
                · simp [ret] at h; subst h; exact Same.refl _ _
                · split at h
                  · cases h; exact Same.push _ _ _
                  · cases h
              · simp only [Option.bind_eq_some_iff] at h
                obtain ⟨o, _, h⟩ := h
                split at h
                · simp [ret] at h; subst h; exact Same.refl _ _
                · split at h
                  · cases h
                    exact Same.set _ (fun e => hg (by rw [e]))
                  · cases h
              · cases h
            · cases h
          · cases h
        · -- copy
          exfalso
          simp only [Option.bind_eq_some_iff] at h
          obtain ⟨_, _, h⟩ := h
          split at h
          · unfold copyV at h
            split at h
            · split at h
              · split at h
                · cases h; exact hw rfl
                · cases h
              · cases h
            · cases h
          · cases h
        · exact absurd rfl hl
        · exact absurd rfl hl
        · cases h
      | invoke r n =>
        simp only [opRunC] at h
        split at h
        · simp only [Option.bind_eq_some_iff] at h
          obtain ⟨p, _, h⟩ := h
          unfold heapRun at h
          split at h
          · split at h
            · cases h
            · simp only [Option.some.injEq] at h; subst h; exact Same.of_eq (hn _ _ rfl)
          · cases h
        · cases h
    | typeAssert x u t c =>
      cases c with
      | true =>
        simp only [opRunC, opRun] at h
        split at h
        · simp only [Option.bind_eq_some_iff] at h
          obtain ⟨v, _, q, _, h⟩ := h
          simp [ret] at h; subst h; exact Same.refl _ _
        · cases h
      | false => simp [opRunC, opRun] at h
    | makeMap t q =>
      cases q with
      | none =>
        simp only [opRunC, opRun] at h
        split at h
        · cases h; exact Same.push _ _ _
        · cases h
      | some q => simp [opRunC, opRun] at h
    | lookup t x k c =>
      cases c with
      | true => simp [opRunC, opRun] at h
      | false =>
        simp only [opRunC, opRun] at h
        split at h
        · split at h
          · unfold lookM at h
            split at h
            · cases h; exact Same.refl _ _
            · simp only [Option.bind_eq_some_iff] at h
              obtain ⟨o, _, ks, _, h⟩ := h
              cases h; exact Same.refl _ _
            · cases h
          · cases h
        · cases h
    | mapUpdate t x k y =>
      simp only [opRunC, opRun] at h
      split at h
      · split at h
        · unfold updM at h
          split at h
          · simp only [Option.bind_eq_some_iff] at h
            obtain ⟨o, _, ks, _, h⟩ := h
            cases h
            simp only
            split
            · exact Same.refl _ _
            · exact Same.set _ (fun e => hg (by rw [e]))
          · cases h
        · cases h
      · cases h
    | _ => first | exact absurd rfl hl | (simp [opRunC, opRun] at h; done)



theorem calls_some {P : Program} {f : FuncId} {us : Array Value} {w : World} {R : Ending → World → Prop} (h : Calls P f us w R) : ∃ x w', R x w' := by
  obtain ⟨x, w', _, hr, _⟩ := h []
  exact ⟨x, w', hr⟩

theorem good_call {P : Program} {call : CallFn} (hC : CallOk P call) {N n0 : Nat} {e : Env} {H : Heap} {fid : FuncId} {vs : List V} {r : Res} {w : World} {S : Cells} {β : Bl} {a : Act} (hR : Rel w S H β) (hA : AgreeA N n0 w S H β e a)
    (hv : ∀ v ∈ vs, ∃ u, RV w S H β v u) (h : callRun P call fid vs H = some r) {d : Option Tmp} (hd : ∀ t, d = some t → t < N) : Good N (putO e d r.v) r.H := by
  have hus : ∃ us : List Value, vs.length = us.length ∧ ∀ i (hi : i < vs.length) (hu : i < us.length), RV w S H β vs[i] us[i] := by
    clear h
    induction vs with
    | nil => exact ⟨[], rfl, fun i hi => by simp at hi⟩
    | cons v vs ih =>
      obtain ⟨us, h1, h2⟩ := ih fun x hx => hv x (by simp [hx])
      obtain ⟨u, hu⟩ := hv v (by simp)
      refine ⟨u :: us, by simp [h1], fun i hi hu' => ?_⟩
      cases i with
      | zero => exact hu
      | succ i => exact h2 i (by simpa using hi) (by simpa using hu')
  obtain ⟨us, h1, h2⟩ := hus
  obtain ⟨_, hcalls⟩ := call_ok hC h
  obtain ⟨x, w', u, S', β', _, hE, hR', hv'⟩ := calls_some (hcalls w S β us hR h1 h2)
  exact ⟨n0, w', S', β', _, hR', (hA.mono (hE.marks hR) hE.stay hE.grow).put hd hv'⟩

theorem good_heap {P : Program} {call : CallFn} (hC : CallOk P call) {N n0 : Nat} {e : Env} {H : Heap} {fid : FuncId} {vs : List V} {r : Res} {w : World} {S : Cells} {β : Bl} {a : Act} (hR : Rel w S H β) (hA : AgreeA N n0 w S H β e a)
    (hv : ∀ v ∈ vs, ∃ u, RV w S H β v u) (h : heapRun call fid vs H = some r) {d : Option Tmp} (hd : ∀ t, d = some t → t < N) : Good N (putO e d r.v) r.H := by
  have hus : ∃ us : List Value, vs.length = us.length ∧ ∀ i (hi : i < vs.length) (hu : i < us.length), RV w S H β vs[i] us[i] := by
    clear h
    induction vs with
    | nil => exact ⟨[], rfl, fun i hi => by simp at hi⟩
    | cons v vs ih =>
      obtain ⟨us, h1, h2⟩ := ih fun x hx => hv x (by simp [hx])
      obtain ⟨u, hu⟩ := hv v (by simp)
      refine ⟨u :: us, by simp [h1], fun i hi hu' => ?_⟩
      cases i with
      | zero => exact hu
      | succ i => exact h2 i (by simpa using hi) (by simpa using hu')
  obtain ⟨us, h1, h2⟩ := hus
  obtain ⟨_, hcalls⟩ := heap_ok hC h
  obtain ⟨x, w', u, S', β', _, hE, hR', hv'⟩ := calls_some (hcalls w S β us hR h1 h2)
  exact ⟨n0, w', S', β', _, hR', (hA.mono (hE.marks hR) hE.stay hE.grow).put hd hv'⟩

theorem good_step {P : Program} {call : CallFn} (hC : CallOk P call) {N : Nat} {e : Env} {H : Heap} {op : Op} {r : Res} (hG : Good N e H) (h : opRunC P call op e H = some r) {d : Option Tmp} (hd : ∀ t, d = some t → t < N) : Good N (putO e d r.v) r.H := by
  obtain ⟨n0, w, S, β, a, hR, hA⟩ := hG
  have plain : opRun P op e H = some r → Good N (putO e d r.v) r.H := by
    intro hop
    obtain ⟨u, w1, S1, β1, _, hE1, hR1, hv1⟩ := d_op (ρ := a.eval) (dst := d) (ty := 0) (pos := "") (af := #[]) (g := none) hR hA.2.2 hop
    exact ⟨n0, w1, S1, β1, _, hR1, (hA.mono (hE1.marks hR) hE1.stay hE1.grow).put hd hv1⟩
  have hargs : ∀ {l : List Operand} {vs : List V}, evs e l = some vs → ∀ v ∈ vs, ∃ u, RV w S H β v u := by
    intro l vs hvs v hv
    obtain ⟨h1, h2⟩ := evs_rv hA.2.2 hvs
    obtain ⟨i, hi, rfl⟩ := List.mem_iff_getElem.1 hv
    exact ⟨_, h2 i hi (by simp; omega)⟩
  unfold opRunC at h
  split at h
  · split at h
    · rename_i fid vs hf hvs
      exact good_call hC hR hA (hargs hvs) h hd
    · rename_i fid fst cap vs hf hvs
      refine good_call hC hR hA ?_ h hd
      intro v hv
      have hfv := hA.2.2 _ _ hf
      generalize a.eval _ = q at hfv
      cases hfv with
      | fn _ _ _ us1 us2 hl1 hl2 h1 h2 =>
        rcases List.mem_append.1 hv with hv | hv
        · rcases List.mem_append.1 hv with hv | hv
          · obtain ⟨i, hi, rfl⟩ := List.mem_iff_getElem.1 hv
            exact ⟨_, h1 i hi (by omega)⟩
          · exact hargs hvs v hv
        · obtain ⟨i, hi, rfl⟩ := List.mem_iff_getElem.1 hv
          exact ⟨_, h2 i hi (by omega)⟩
    · cases h
  · split at h
    · rename_i rv vs hx hvs
      simp only [Option.bind_eq_some_iff] at h
      obtain ⟨⟨fid, y⟩, hrc, hheap⟩ := h
      obtain ⟨_, _, uy, _, _, hyv⟩ := recv_run hR (hA.2.2 _ _ hx) hrc
      refine good_heap hC hR hA ?_ hheap hd
      intro v hv
      rcases List.mem_cons.1 hv with rfl | hv
      · exact ⟨_, hyv⟩
      · exact hargs hvs v hv
    · cases h
  · exact plain h

theorem good_dead {N : Nat} {e : Env} {H : Heap} (hG : Good N e H) {d : Option Tmp} (hd : ∀ t, d = some t → t < N) : Good N (putO e d .dead) H := by
  obtain ⟨n0, w, S, β, a, hR, hA⟩ := hG
  exact ⟨n0, w, S, β, _, hR, hA.put (u := undef) hd .dead⟩

theorem good_id {N : Nat} {e : Env} {H : Heap} (hG : Good N e H) {x : Operand} {v : V} (hv : ev e x = some v) {id : Nat} (h : (∃ n, v = .ref id n) ∨ ∃ n i off, v = .ptr id n i off) : ∃ o : Obj, H[id]? = some o := by
  obtain ⟨n0, w, S, β, a, hR, hA⟩ := hG
  have hr := hA.2.2 x v hv
  generalize a.eval x = q at hr
  rcases h with ⟨n, rfl⟩ | ⟨n, i, off, rfl⟩
  · cases hr with | ref _ _ _ hok => obtain ⟨_, o, ho, _⟩ := hok; exact ⟨o, ho⟩
  · cases hr with | ptr _ _ _ _ _ hok => obtain ⟨_, o, ho, _⟩ := hok; exact ⟨o, ho⟩


theorem ev_putO {e : Env} {d : Option Tmp} {v : V} {x : Operand} (h : ∀ t, d = some t → x ≠ .tmp t) : ev (putO e d v) x = ev e x := by
  cases d with
  | none => rfl
  | some t =>
    cases x with
    | tmp s =>
      have : s ≠ t := fun e => h t rfl (by rw [e])
      simp [ev, putO, put, this]
    | _ => rfl

theorem opC_put {P : Program} {call : CallFn} {ops : Array Oper} {o : Oper} {e : Env} {H : Heap} {d : Option Tmp} {v : V} (h : ∀ t, d = some t → t ∉ o.looksAt ops) : opRunC P call o.op (putO e d v) H = opRunC P call o.op e H :=
  opC_congr fun x hx => ev_putO fun t ht hxt => h t ht (by
    subst hxt
    exact List.mem_append_left _ (List.mem_filterMap.2 ⟨.tmp t, by simpa using hx, rfl⟩))

theorem want_put {ops : Array Oper} {o : Oper} {e : Env} {d : Option Tmp} {v : V} (h : ∀ t, d = some t → t ∉ o.looksAt ops) : wantedV ops (putO e d v) o = wantedV ops e o := by
  unfold wantedV
  cases hg : o.guard with
  | none => rfl
  | some p =>
    obtain ⟨j, want⟩ := p
    simp only
    have : yieldV ops (putO e d v) j = yieldV ops e j := by
      unfold yieldV
      cases hb : (ops[j]?).bind (·.dst) with
      | none => rfl
      | some t =>
        simp only
        have hne : ∀ s, d = some s → s ≠ t := fun s hs e => h s hs (by subst e; simp [Oper.looksAt, hg, hb])
        have : putO e d v t = e t := by
          cases d with
          | none => rfl
          | some s => simp [putO, put, (hne s rfl).symm]
        rw [this]
    rw [this]

theorem putO_comm {e : Env} {d d' : Option Tmp} {v v' : V} (h : ∀ t, d = some t → d' ≠ some t) : putO (putO e d v) d' v' = putO (putO e d' v') d v := by
  cases d with
  | none => rfl
  | some t =>
    cases d' with
    | none => rfl
    | some s =>
      have hne : s ≠ t := fun e => h t rfl (by rw [e])
      funext x
      simp only [putO, put]
      by_cases h1 : x = s
      · by_cases h2 : x = t
        · exact absurd (h1.symm.trans h2) hne
        · simp [h1, hne]
      · by_cases h2 : x = t
        · subst h2; simp [h1]
        · simp [h1, h2]

def LogEq (l l' : Log) : Prop := ∀ a, a ∈ l ↔ a ∈ l'

theorem LogEq.refl (l : Log) : LogEq l l := fun _ => Iff.rfl
theorem LogEq.trans {l l1 l2 : Log} (h : LogEq l l1) (k : LogEq l1 l2) : LogEq l l2 := fun a => (h a).trans (k a)
theorem LogEq.symm {l l' : Log} (h : LogEq l l') : LogEq l' l := fun a => (h a).symm
theorem mem_add {l : Log} {d : Option Tmp} {f : Eff} {a : Option Tmp × Eff} : a ∈ l.add d f ↔ a ∈ l ∨ (a = (d, f) ∧ f ≠ .none) := by
  cases f <;> simp [Log.add] <;> exact Or.comm
theorem LogEq.add {l l' : Log} (h : LogEq l l') (d : Option Tmp) (f : Eff) : LogEq (l.add d f) (l'.add d f) := fun a => by
  rw [mem_add, mem_add, h a]
theorem LogEq.swap (l : Log) (d d' : Option Tmp) (f g : Eff) : LogEq ((l.add d f).add d' g) ((l.add d' g).add d f) := fun a => by
  simp only [mem_add, or_assoc]
  constructor <;> (intro h; rcases h with h | h | h <;> simp [h])

theorem ops_log {P : Program} {call : CallFn} {ops : Array Oper} : ∀ {l : List Oper} {e : Env} {H : Heap} {lg lg' : Log} {e' : Env} {H' : Heap} {lg1 : Log}, LogEq lg lg' → opsRun P call ops l e H lg = some (e', H', lg1) →
    ∃ lg2, opsRun P call ops l e H lg' = some (e', H', lg2) ∧ LogEq lg1 lg2 := by
  intro l
  induction l with
  | nil =>
    intro e H lg lg' e' H' lg1 hl h
    simp only [opsRun, Option.some.injEq, Prod.mk.injEq] at h
    obtain ⟨rfl, rfl, rfl⟩ := h
    exact ⟨lg', rfl, hl⟩
  | cons o l ih =>
    intro e H lg lg' e' H' lg1 hl h
    simp only [opsRun] at h ⊢
    split at h
    · rename_i hw
      split at h
      · rename_i v H1 f hrun
        try rw [hrun]
        exact ih (hl.add _ f) h
      · cases h
    · rename_i hw
      exact ih hl h
    · cases h

theorem log_more {P : Program} {call : CallFn} {ops : Array Oper} : ∀ {l : List Oper} {e : Env} {H : Heap} {lg : Log} {e' : Env} {H' : Heap} {lg1 : Log}, opsRun P call ops l e H lg = some (e', H', lg1) → ∀ a, a ∈ lg → a ∈ lg1 := by
  intro l
  induction l with
  | nil =>
    intro e H lg e' H' lg1 h
    simp only [opsRun, Option.some.injEq, Prod.mk.injEq] at h
    obtain ⟨rfl, rfl, rfl⟩ := h
    exact fun _ h => h
  | cons o l ih =>
    intro e H lg e' H' lg1 h
    simp only [opsRun] at h
    split at h
    · split at h
      · rename_i v H1 f hrun
        exact fun a ha => ih h a (mem_add.2 (.inl ha))
      · cases h
    · exact ih h
    · cases h

theorem fine_eq {L : List (Option Tmp × Option Tmp × Bool × Bool)} {l l' : Log} (h : LogEq l l') (hf : l.fine L = true) : l'.fine L = true := by
  simp only [Log.fine, List.all_eq_true, Bool.and_eq_true] at hf ⊢
  intro p hp a ha
  obtain ⟨h1, h2⟩ := hf p hp a ((h a).2 ha)
  exact ⟨h1, fun b hb => h2 b ((h b).2 hb)⟩

def Spares (g : Eff) (id : Nat) : Prop := g ≠ .grow id ∧ g ≠ .wild ∧ ∀ H0 H1, g = .ran H0 H1 → H1[id]? = H0[id]?
theorem fine_pair {L : List (Option Tmp × Option Tmp × Bool × Bool)} {l : Log} (hf : l.fine L = true) {d d' : Option Tmp} {lx ly : Bool} (hp : (d, d', lx, ly) ∈ L) {f g : Eff} (h1 : f ≠ .none → (d, f) ∈ l) (h2 : g ≠ .none → (d', g) ∈ l) :
    (f = .bad → ly = true ∧ g ≠ .bad) ∧ (g = .bad → lx = true ∧ f ≠ .bad) ∧ (∀ id, f = .load id → Spares g id) ∧ (∀ id, g = .load id → Spares f id) := by
  simp only [Log.fine, List.all_eq_true, Bool.and_eq_true] at hf
  have hf := hf _ hp
  refine ⟨?_, ?_, ?_, ?_⟩
  · rintro rfl
    have h3 := hf _ (h1 (by simp))
    refine ⟨?_, ?_⟩
    · have := h3.1
      simp [Eff.isBad] at this
      exact this.1
    · rintro rfl
      have := h3.2 _ (h2 (by simp))
      simp [Eff.swaps] at this
  · rintro rfl
    have h3 := hf _ (h2 (by simp))
    refine ⟨?_, ?_⟩
    · have := h3.1
      simp [Eff.isBad] at this
      exact this.2
    · rintro rfl
      have := (hf _ (h1 (by simp))).2 _ (h2 (by simp))
      simp [Eff.swaps] at this
  · rintro id rfl
    refine ⟨?_, ?_, ?_⟩
    · rintro rfl
      have := (hf _ (h1 (by simp))).2 _ (h2 (by simp))
      simp [Eff.swaps] at this
    · rintro rfl
      have := (hf _ (h1 (by simp))).2 _ (h2 (by simp))
      simp [Eff.swaps] at this
    · rintro H0 H1 rfl
      have := (hf _ (h1 (by simp))).2 _ (h2 (by simp))
      simp only [Eff.swaps, bne_self_eq_false, Bool.false_or] at this
      exact @of_decide_eq_true _ (Classical.propDecidable _) this
  · rintro id rfl
    refine ⟨?_, ?_, ?_⟩
    · rintro rfl
      have := (hf _ (h1 (by simp))).2 _ (h2 (by simp))
      simp [Eff.swaps] at this
    · rintro rfl
      have := (hf _ (h1 (by simp))).2 _ (h2 (by simp))
      simp [Eff.swaps] at this
    · rintro H0 H1 rfl
      have := (hf _ (h1 (by simp))).2 _ (h2 (by simp))
      simp only [Eff.swaps, bne_self_eq_false, Bool.false_or] at this
      exact @of_decide_eq_true _ (Classical.propDecidable _) this

theorem light_callee {P : Program} {call : CallFn} {op : Op} {e : Env} {H : Heap} (hl : lightOp op = true) : opRunC P call op e H = opRun P op e H := by
  cases op with
  | call c => obtain ⟨callee, as, ts⟩ := c; cases callee <;> first | rfl | simp [lightOp] at hl
  | _ => rfl

theorem swap_run {P : Program} {call : CallFn} {N : Nat} {e : Env} {H Ha Hs : Heap} {x y : Op} {va vs : V} {fa fs : Eff} (hG : Good N e H) (hl : lightOp x = true ∨ lightOp y = true)
    (hx : opRunC P call x e H = some ⟨va, Ha, fa⟩) (hy : opRunC P call y e Ha = some ⟨vs, Hs, fs⟩) (hb1 : fa = .bad → lightOp y = true ∧ fs ≠ .bad) (hb2 : fs = .bad → lightOp x = true ∧ fa ≠ .bad)
    (h1 : ∀ id, fa = .load id → Spares fs id) (h2 : ∀ id, fs = .load id → Spares fa id) :
    ∃ H2, opRunC P call y e H = some ⟨vs, H2, fs⟩ ∧ opRunC P call x e H2 = some ⟨va, Hs, fa⟩ := by
  have second : lightOp y = true → fs ≠ .bad → ∃ H2, opRunC P call y e H = some ⟨vs, H2, fs⟩ ∧ opRunC P call x e H2 = some ⟨va, Hs, fa⟩ := by
    intro hly hnb
    have hy' := hy
    rw [light_callee hly] at hy'
    rcases light_ok hly hy' with hb | ⟨hH, hany, hfrom⟩
    · exact absurd hb.1 hnb
    · simp only at hH; subst hH
      refine ⟨H, ?_, hx⟩
      rw [light_callee hly]
      refine hany H ?_
      rcases hfrom with hn | ⟨id, hid, o, v, hv, hk⟩
      · exact .inl hn
      · obtain ⟨n1, n2, n3⟩ := h2 id hid
        have hsame := keeps_ok hx id n1 n2 n3
        obtain ⟨ob, hob⟩ := good_id hG hv hk
        refine .inr ⟨id, hid, fun o' ho' => ?_⟩
        obtain ⟨o2, h3, h4, h5⟩ := hsame ob hob
        simp only at h3
        rw [ho'] at h3; cases h3
        exact ⟨ob, hob, h4.symm, h5.symm⟩
  by_cases hlx : lightOp x = true
  · -- the first is light
    have hx' := hx
    rw [light_callee hlx] at hx'
    rcases light_ok hlx hx' with hb | ⟨hH, hany, hfrom⟩
    · obtain ⟨q1, q2⟩ := hb1 hb.1
      exact second q1 q2
    · simp only at hH; subst hH
      refine ⟨Hs, hy, ?_⟩
      rw [light_callee hlx]
      refine hany Hs ?_
      rcases hfrom with hn | ⟨id, hid, _⟩
      · exact .inl hn
      · obtain ⟨n1, n2, n3⟩ := h1 id hid
        exact .inr ⟨id, hid, keeps_ok hy id n1 n2 n3⟩
  · refine second (hl.resolve_left hlx) fun hb => hlx (hb2 hb).1

theorem indep_spec {ops : Array Oper} {x y : Oper} (h : indep ops x y = true) :
    (∀ t, x.dst = some t → t ∉ y.looksAt ops) ∧ (∀ t, y.dst = some t → t ∉ x.looksAt ops) ∧ (∀ t, x.dst = some t → y.dst ≠ some t) ∧ (lightOp x.op = true ∨ lightOp y.op = true) := by
  simp only [indep, Bool.and_eq_true, Bool.or_eq_true] at h
  obtain ⟨⟨h1, h2⟩, h3⟩ := h
  obtain ⟨a1, a2, a3⟩ := Oper.apart_spec h1
  exact ⟨a1, a3, a2, h3⟩

theorem swap_ops {P : Program} {call : CallFn} {ops : Array Oper} {N : Nat} {x y : Oper} {B : List Oper} {e : Env} {H : Heap} {lg : Log} {e' : Env} {H' : Heap} {lg1 : Log} (hG : Good N e H) (hi : indep ops x y = true)
    (h : opsRun P call ops (x :: y :: B) e H lg = some (e', H', lg1)) {L : List (Option Tmp × Option Tmp × Bool × Bool)} (hp : (x.dst, y.dst, lightOp x.op, lightOp y.op) ∈ L) (hf : lg1.fine L = true) : ∃ lg2, opsRun P call ops (y :: x :: B) e H lg = some (e', H', lg2) ∧ LogEq lg1 lg2 := by
  obtain ⟨a1, a2, a3, a4⟩ := indep_spec hi
  have a3' : ∀ t, y.dst = some t → x.dst ≠ some t := fun t ht hx => a3 t hx ht
  simp only [opsRun] at h ⊢
  split at h
  · rename_i hwx
    split at h
    · rename_i va Ha fa hx
      rw [want_put a1] at h
      split at h
      · rename_i hwy
        split at h
        · rename_i vs Hs fs hy
          rw [opC_put a1] at hy
          -- the log
          have hlog := log_more h
          obtain ⟨hb1, hb2, h1, h2⟩ := fine_pair hf hp (f := fa) (g := fs) (fun hn => hlog _ (mem_add.2 (.inl (mem_add.2 (.inr ⟨rfl, hn⟩))))) (fun hn => hlog _ (mem_add.2 (.inr ⟨rfl, hn⟩)))
          obtain ⟨H2, h3, h4⟩ := swap_run hG a4 hx hy hb1 hb2 h1 h2
          rw [h3]
          simp only
          rw [want_put a2, hwx]
          simp only
          rw [opC_put a2, h4]
          simp only
          rw [putO_comm a3']
          exact ops_log (LogEq.swap lg _ _ fa fs) h
        · cases h
      · rename_i hwy
        rw [want_put a2, hwx]
        simp only
        rw [opC_put a2, hx]
        simp only
        rw [putO_comm a3']
        exact ⟨lg1, h, LogEq.refl _⟩
      · cases h
    · cases h
  · rename_i hwx
    rw [want_put a1] at h
    split at h
    · rename_i hwy
      split at h
      · rename_i vs Hs fs hy
        rw [opC_put a1] at hy
        rw [hy]
        simp only
        rw [want_put a2, hwx]
        simp only
        rw [putO_comm a3']
        exact ⟨lg1, h, LogEq.refl _⟩
      · cases h
    · rename_i hwy
      rw [want_put a2, hwx]
      simp only
      rw [putO_comm a3']
      exact ⟨lg1, h, LogEq.refl _⟩
    · cases h
  · cases h
end Go.Sim

namespace Go.Sim
variable [Base]
section
variable {P : Program} {call : CallFn} {ops : Array Oper} {N : Nat}

theorem head_run (hC : CallOk P call) {o : Oper} {l : List Oper} {e : Env} {H : Heap} {lg : Log} {e' : Env} {H' : Heap} {lg1 : Log} (hG : Good N e H) (hd : ∀ t, o.dst = some t → t < N) (h : opsRun P call ops (o :: l) e H lg = some (e', H', lg1)) :
    ∃ e1 H1 lg0, Good N e1 H1 ∧ opsRun P call ops l e1 H1 lg0 = some (e', H', lg1) ∧ ∀ l' r, opsRun P call ops l' e1 H1 lg0 = some r → opsRun P call ops (o :: l') e H lg = some r := by
  simp only [opsRun] at h
  split at h
  · rename_i hw
    split at h
    · rename_i v H1 f hrun
      refine ⟨_, H1, _, good_step hC hG hrun hd, h, fun l' r hr => ?_⟩
      simp only [opsRun, hw, hrun]; exact hr
    · cases h
  · rename_i hw
    refine ⟨_, H, lg, good_dead hG hd, h, fun l' r hr => ?_⟩
    simp only [opsRun, hw]; exact hr
  · cases h

theorem bubble {L : List (Option Tmp × Option Tmp × Bool × Bool)} (hC : CallOk P call) {s : Oper} {B : List Oper} : ∀ (A : List Oper) (e : Env) (H : Heap) (lg : Log) (e' : Env) (H' : Heap) (lg1 : Log), Good N e H → (∀ x ∈ A, (indep ops x s = true ∧ (x.dst, s.dst, lightOp x.op, lightOp s.op) ∈ L) ∧ ∀ t, x.dst = some t → t < N) →
    opsRun P call ops (A ++ s :: B) e H lg = some (e', H', lg1) → lg1.fine L = true → ∃ lg2, opsRun P call ops (s :: (A ++ B)) e H lg = some (e', H', lg2) ∧ LogEq lg1 lg2 := by
  intro A
  induction A with
  | nil => intro e H lg e' H' lg1 _ _ h _; exact ⟨lg1, h, LogEq.refl _⟩
  | cons a A ih =>
    intro e H lg e' H' lg1 hG hA h hf
    obtain ⟨hi, hd⟩ := hA a (by simp)
    obtain ⟨e1, H1, lg0, hG1, h1, back⟩ := head_run hC hG hd h
    obtain ⟨lg2, h2, hl2⟩ := ih e1 H1 lg0 e' H' lg1 hG1 (fun x hx => hA x (by simp [hx])) h1 hf
    have h3 := back _ _ h2
    obtain ⟨lg3, h4, hl3⟩ := swap_ops hG hi.1 h3 hi.2 (fine_eq hl2 hf)
    exact ⟨lg3, h4, hl2.trans hl3⟩

def lst (ops : Array Oper) (σ : List Nat) : List Oper := σ.filterMap fun i => ops[i]?

theorem perm_run {Lp : List (Option Tmp × Option Tmp × Bool × Bool)} (hC : CallOk P call) (hd : ∀ o ∈ ops.toList, ∀ t, o.dst = some t → t < N) : ∀ (σ L : List Nat) (e : Env) (H : Heap) (lg : Log) (e' : Env) (H' : Heap) (lg1 : Log), σ.Perm L → L.Pairwise (· < ·) →
    σ.Pairwise (fun a b => b < a → ∀ x y, ops[a]? = some x → ops[b]? = some y → indep ops y x = true ∧ (y.dst, x.dst, lightOp y.op, lightOp x.op) ∈ Lp) → Good N e H → opsRun P call ops (lst ops L) e H lg = some (e', H', lg1) → lg1.fine Lp = true →
    ∃ lg2, opsRun P call ops (lst ops σ) e H lg = some (e', H', lg2) := by
  intro σ
  induction σ with
  | nil =>
    intro L e H lg e' H' lg1 hp _ _ _ h _
    have : L = [] := hp.symm.eq_nil
    subst this
    exact ⟨lg1, h⟩
  | cons s σ ih =>
    intro L e H lg e' H' lg1 hp hL hσ hG h hf
    have hs : s ∈ L := hp.subset (by simp)
    obtain ⟨A, B, rfl⟩ := List.append_of_mem hs
    have hp' : σ.Perm (A ++ B) := by
      have := hp.trans List.perm_middle
      exact List.Perm.cons_inv this
    rw [List.pairwise_append] at hL
    obtain ⟨hLA, hLB, hAB⟩ := hL
    rw [List.pairwise_cons] at hLB
    have hL' : (A ++ B).Pairwise (· < ·) := List.pairwise_append.2 ⟨hLA, hLB.2, fun a ha b hb => hAB a ha b (by simp [hb])⟩
    rw [List.pairwise_cons] at hσ
    cases ho : ops[s]? with
    | none =>
      have e1 : lst ops (A ++ s :: B) = lst ops (A ++ B) := by simp [lst, List.filterMap_append, List.filterMap_cons, ho]
      have e2 : lst ops (s :: σ) = lst ops σ := by simp [lst, List.filterMap_cons, ho]
      rw [e1] at h; rw [e2]
      exact ih (A ++ B) e H lg e' H' lg1 hp' hL' hσ.2 hG h hf
    | some o =>
      have e1 : lst ops (A ++ s :: B) = lst ops A ++ o :: lst ops B := by simp [lst, List.filterMap_append, List.filterMap_cons, ho]
      have e2 : lst ops (s :: σ) = o :: lst ops σ := by simp [lst, List.filterMap_cons, ho]
      have e3 : lst ops A ++ lst ops B = lst ops (A ++ B) := by simp [lst, List.filterMap_append]
      rw [e1] at h; rw [e2]
      have hAi : ∀ x ∈ lst ops A, (indep ops x o = true ∧ (x.dst, o.dst, lightOp x.op, lightOp o.op) ∈ Lp) ∧ ∀ t, x.dst = some t → t < N := by
        intro x hx
        obtain ⟨a, ha, hax⟩ := List.mem_filterMap.1 hx
        have hlt : a < s := hAB a ha s (by simp)
        have haσ : a ∈ σ := hp'.symm.subset (by simp [ha])
        exact ⟨hσ.1 a haσ hlt o x ho hax, hd x (Array.mem_toList_iff.2 (Array.mem_of_getElem? hax))⟩
      obtain ⟨lg2, h2, hl2⟩ := bubble hC (lst ops A) e H lg e' H' lg1 hG hAi h hf
      obtain ⟨e4, H4, lg4, hG4, h4, back⟩ := head_run hC hG (hd o (Array.mem_toList_iff.2 (Array.mem_of_getElem? ho))) h2
      rw [e3] at h4
      obtain ⟨lg5, h5⟩ := ih (A ++ B) e4 H4 lg4 e' H' lg2 hp' hL' hσ.2 hG4 h4 (fine_eq hl2 hf)
      exact ⟨lg5, back _ _ h5⟩


inductive Ahead (ops : Array Oper) : Nat → Nat → Prop
  | one {i j : Nat} {o : Oper} {ed : Edge} (ho : ops[j]? = some o) (he : ed ∈ o.after) (hb : Region.binds .any ed = true) (hi : ed.on = i) : Ahead ops i j
  | more {i j : Nat} {o : Oper} {ed : Edge} (ho : ops[j]? = some o) (he : ed ∈ o.after) (hb : Region.binds .any ed = true) (hi : Ahead ops i ed.on) : Ahead ops i j

def unl (n : Nat) (listed : Array Bool) : List Nat := (List.range n).filter fun j => !listed.getD j true

theorem unl_take {n i : Nat} {listed : Array Bool} (hs : listed.size = n) (hi : i ∈ unl n listed) : (unl n listed).Perm (i :: unl n (listed.setIfInBounds i true)) := by
  have hnd : (unl n listed).Nodup := List.Pairwise.filter _ List.nodup_range
  have e : unl n (listed.setIfInBounds i true) = (unl n listed).erase i := by
    rw [List.Nodup.erase_eq_filter hnd]
    unfold unl
    rw [List.filter_filter]
    apply List.filter_congr
    intro j hj
    have hjn : j < listed.size := by rw [hs]; exact List.mem_range.1 hj
    by_cases h : j = i
    · subst h
      simp [hjn]
    · simp [Array.getElem?_setIfInBounds_ne (fun e => h e.symm), h, Array.getD_eq_getD_getElem?]
  rw [e]
  exact List.perm_cons_erase hi

def Closed (ops : Array Oper) (listed : Array Bool) : Prop := ∀ j, listed.getD j false = true → ∀ o, ops[j]? = some o → ∀ ed ∈ o.after, Region.binds .any ed = true → listed.getD ed.on false = true

theorem ahead_listed {listed : Array Bool} (hc : Closed ops listed) {i j : Nat} (h : Ahead ops i j) (hj : ∀ o, ops[j]? = some o → ∀ ed ∈ o.after, Region.binds .any ed = true → listed.getD ed.on false = true) : listed.getD i false = true := by
  induction h with
  | one ho he hb hi => rw [← hi]; exact hj _ ho _ he hb
  | more ho he hb _ ih => exact ih (hc _ (hj _ ho _ he hb))

theorem go_ok (hlow : ∀ j o, ops[j]? = some o → ∀ ed ∈ o.after, Region.binds .any ed = true → ed.on < j) : ∀ (fuel t : Nat) (listed : Array Bool), listed.size = ops.size → Closed ops listed → (unl ops.size listed).length ≤ fuel →
    (Region.linearise.go .any ops fuel t listed []).Perm (unl ops.size listed) ∧ (Region.linearise.go .any ops fuel t listed []).Pairwise (fun a b => ¬ Ahead ops b a) := by
  intro fuel
  induction fuel with
  | zero =>
    intro t listed _ _ hl
    have : unl ops.size listed = [] := List.length_eq_zero_iff.1 (by omega)
    rw [this]
    simp [Region.linearise.go]
  | succ fuel ih =>
    intro t listed hs hc hl
    simp only [Region.linearise.go]
    change (match (Region.ready .any ops listed)[t % (Region.ready .any ops listed).length]? with
      | some i => Region.linearise.go .any ops fuel (t / (Region.ready .any ops listed).length) (listed.setIfInBounds i true) [i]
      | none => [].reverse).Perm _ ∧ (match (Region.ready .any ops listed)[t % (Region.ready .any ops listed).length]? with
      | some i => Region.linearise.go .any ops fuel (t / (Region.ready .any ops listed).length) (listed.setIfInBounds i true) [i]
      | none => [].reverse).Pairwise _
    cases hi : (Region.ready .any ops listed)[t % (Region.ready .any ops listed).length]? with
    | none =>
      have hnil : Region.ready .any ops listed = [] := by
        cases hr : Region.ready .any ops listed with
        | nil => rfl
        | cons x xs =>
          rw [hr] at hi
          have hlt : t % (x :: xs).length < (x :: xs).length := Nat.mod_lt _ (by simp)
          rw [List.getElem?_eq_getElem hlt] at hi
          cases hi
      -- then nothing is left
      have hempty : unl ops.size listed = [] := by
        apply List.eq_nil_iff_forall_not_mem.2
        intro j
        induction j using Nat.strongRecOn with
        | ind j ihj =>
          intro hj
          simp only [unl, List.mem_filter, List.mem_range, Bool.not_eq_true'] at hj
          have hready : j ∈ Region.ready .any ops listed := by
            rw [mem_ready]
            refine ⟨hj.2, ops[j], by simp [hj.1], fun ed he hb => ?_⟩
            have hlt := hlow j ops[j] (by simp [hj.1]) ed he hb
            have := ihj ed.on hlt
            simp only [unl, List.mem_filter, List.mem_range, Bool.not_eq_true', not_and, Bool.not_eq_false] at this
            have h2 := this (by omega)
            have hsz : ed.on < listed.size := by omega
            simpa [Array.getD_eq_getD_getElem?, hsz] using h2
          rw [hnil] at hready; cases hready
      rw [hempty]
      simp
    | some i =>
      have hmem := List.mem_of_getElem? hi
      obtain ⟨h0, o, ho, hall⟩ := mem_ready.1 hmem
      have hlt : i < ops.size := (Array.getElem?_eq_some_iff.1 ho).1
      have hiu : i ∈ unl ops.size listed := List.mem_filter.2 ⟨List.mem_range.2 hlt, by rw [h0]; rfl⟩
      have hperm := unl_take hs hiu
      have hc' : Closed ops (listed.setIfInBounds i true) := by
        intro j hj o' ho' ed he hb
        by_cases e : j = i
        · subst e
          rw [ho] at ho'; cases ho'
          exact getD_set_true (hall ed he hb)
        · refine getD_set_true (hc j ?_ o' ho' ed he hb)
          rw [getD_set_ne false (fun h => e h.symm)] at hj; exact hj
      have hlen : (unl ops.size (listed.setIfInBounds i true)).length ≤ fuel := by
        have := hperm.length_eq
        simp at this; omega
      obtain ⟨h1, h2⟩ := ih (t / (Region.ready .any ops listed).length) (listed.setIfInBounds i true) (by simp [hs]) hc' hlen
      simp only
      rw [linearise_go_acc, List.reverse_singleton, List.singleton_append]
      refine ⟨(List.Perm.cons i h1).trans hperm.symm, List.pairwise_cons.2 ⟨fun b hb hah => ?_, h2⟩⟩
      have hb' := h1.subset hb
      simp only [unl, List.mem_filter, List.mem_range, Bool.not_eq_true'] at hb'
      have h3 := ahead_listed hc hah (fun o' ho' ed he hbd => by rw [ho] at ho'; cases ho'; exact hall ed he hbd)
      have h4 : (listed.setIfInBounds i true).getD b false = true := getD_set_true h3
      have hbs : b < (listed.setIfInBounds i true).size := by simp; omega
      simp only [Array.getD_eq_getD_getElem?, Array.getElem?_eq_getElem hbs, Option.getD_some] at h4 hb'
      rw [h4] at hb'; cases hb'.2


theorem step_mem {ops : Array Oper} {acc : List (List Nat)} {j : Nat} {o : Oper} (ho : ops[j]? = some o) (hacc : ∀ k i, i ∈ acc.getD k [] → Ahead ops i k) :
    ∀ (eds : List Edge) (s : List Nat), (∀ ed ∈ eds, ed ∈ o.after ∧ Region.binds .any ed = true) → (∀ i ∈ s, Ahead ops i j) →
    ∀ i ∈ eds.foldl (fun s ed => if s.contains ed.on then s else ed.on :: (s ++ acc.getD ed.on [])) s, Ahead ops i j := by
  intro eds
  induction eds with
  | nil => intro s _ hs i hi; exact hs i hi
  | cons ed eds ih =>
    intro s he hs i hi
    obtain ⟨h1, h2⟩ := he ed (by simp)
    refine ih _ (fun e' he' => he e' (by simp [he'])) ?_ i hi
    show ∀ i, i ∈ (if s.contains ed.on then s else ed.on :: (s ++ acc.getD ed.on [])) → Ahead ops i j
    split
    · exact hs
    · intro x hx
      rcases List.mem_cons.1 hx with rfl | hx
      · exact .one ho h1 h2 rfl
      · rcases List.mem_append.1 hx with hx | hx
        · exact hs x hx
        · exact .more ho h1 h2 (hacc _ _ hx)

theorem aheadAll_ok {ops : Array Oper} : ∀ (l : List Oper) (acc : List (List Nat)), (∀ k, l[k]? = ops[acc.length + k]? ∨ l[k]? = none) → (∀ k i, i ∈ acc.getD k [] → Ahead ops i k) → ∀ k i, i ∈ (l.foldl aheadStep acc).getD k [] → Ahead ops i k := by
  intro l
  induction l with
  | nil => intro acc _ h k i hi; exact h k i hi
  | cons o l ih =>
    intro acc hl h
    have ho : ops[acc.length]? = some o := by
      rcases hl 0 with h0 | h0
      · simpa using h0.symm
      · simp at h0
    simp only [List.foldl_cons]
    refine ih _ (fun k => ?_) ?_
    · have := hl (k + 1)
      simp only [List.getElem?_cons_succ] at this
      rcases this with h1 | h1
      · left
        simp only [aheadStep, List.length_append, List.length_singleton]
        rw [h1]; congr 1; omega
      · exact .inr h1
    · intro k i hi
      simp only [aheadStep, List.getD_eq_getElem?_getD] at hi
      rcases Nat.lt_trichotomy k acc.length with h1 | h1 | h1
      · rw [List.getElem?_append_left h1] at hi
        exact h k i (by simpa [List.getD_eq_getElem?_getD] using hi)
      · subst h1
        simp only [List.getElem?_append_right (Nat.le_refl _), Nat.sub_self, List.getElem?_cons_zero, Option.getD_some] at hi
        refine step_mem ho h _ [] (fun ed he => ?_) (fun _ h => by cases h) i hi
        obtain ⟨h2, h3⟩ := List.mem_filter.1 he
        exact ⟨Array.mem_toList_iff.1 h2, h3⟩
      · rw [List.getElem?_eq_none (by simp; omega)] at hi
        cases hi

theorem ahead_lt (hlow : ∀ j o, ops[j]? = some o → ∀ ed ∈ o.after, Region.binds .any ed = true → ed.on < j) {i j : Nat} (h : Ahead ops i j) : i < j := by
  induction h with
  | one ho he hb hi => rw [← hi]; exact hlow _ _ ho _ he hb
  | more ho he hb _ ih => exact Nat.lt_trans ih (hlow _ _ ho _ he hb)
theorem in_ahead {k i : Nat} (h : i ∈ (aheadAll ops.toList).getD k []) : Ahead ops i k :=
  aheadAll_ok ops.toList [] (fun k => .inl (by simp)) (fun k i hi => by simp at hi) k i h
theorem ahead_trans {a b c : Nat} (h : Ahead ops a b) (k : Ahead ops b c) : Ahead ops a c := by
  induction k with
  | one ho he hb hi => exact .more ho he hb (by rw [hi]; exact h)
  | more ho he hb _ ih => exact .more ho he hb ih
theorem ahead_first {j k : Nat} (h : Ahead ops j k) : ∃ k1 o ed, ops[k1]? = some o ∧ ed ∈ o.after ∧ Region.binds .any ed = true ∧ ed.on = j ∧ (k1 = k ∨ Ahead ops k1 k) := by
  induction h with
  | one ho he hb hi => exact ⟨_, _, _, ho, he, hb, hi, .inl rfl⟩
  | more ho he hb _ ih =>
    obtain ⟨k1, o, ed, h1, h2, h3, h4, h5⟩ := ih
    refine ⟨k1, o, ed, h1, h2, h3, h4, .inr ?_⟩
    rcases h5 with h5 | h5
    · exact .one ho he hb h5.symm
    · exact .more ho he hb h5
theorem fold_in (acc : List (List Nat)) : ∀ (eds : List Edge) (s : List Nat), (∀ i ∈ s, i ∈ eds.foldl (fun s ed => if s.contains ed.on then s else ed.on :: (s ++ acc.getD ed.on [])) s) ∧ ∀ ed ∈ eds, ed.on ∈ eds.foldl (fun s ed => if s.contains ed.on then s else ed.on :: (s ++ acc.getD ed.on [])) s
  | [], s => ⟨fun _ h => h, fun _ h => by cases h⟩
  | ed :: eds, s => by
    rw [List.foldl_cons]
    have hsub : (∀ i ∈ s, i ∈ (if s.contains ed.on then s else ed.on :: (s ++ acc.getD ed.on []))) ∧ ed.on ∈ (if s.contains ed.on then s else ed.on :: (s ++ acc.getD ed.on [])) := by
      split
      · rename_i h; exact ⟨fun _ h => h, by simpa using h⟩
      · exact ⟨fun i hi => by simp [hi], by simp⟩
    obtain ⟨h1, h2⟩ := fold_in acc eds (if s.contains ed.on then s else ed.on :: (s ++ acc.getD ed.on []))
    refine ⟨fun i hi => h1 i (hsub.1 i hi), fun e he => ?_⟩
    rcases List.mem_cons.1 he with rfl | he
    · exact h1 _ hsub.2
    · exact h2 e he
theorem all_keep : ∀ (l : List Oper) (acc : List (List Nat)) (i : Nat), i < acc.length → (l.foldl aheadStep acc).getD i [] = acc.getD i []
  | [], _, _, _ => rfl
  | o :: l, acc, i, hi => by
    rw [List.foldl_cons, all_keep l _ i (by simp [aheadStep]; omega)]
    simp only [aheadStep, List.getD_eq_getElem?_getD, List.getElem?_append_left hi]
theorem all_in : ∀ (l : List Oper) (acc : List (List Nat)) (k : Nat) (o : Oper), l[k]? = some o → ∀ ed ∈ o.after, Region.binds .any ed = true → ed.on ∈ (l.foldl aheadStep acc).getD (acc.length + k) []
  | [], _, _, _, h => by simp at h
  | x :: l, acc, 0, o, h => by
    intro ed he hb
    simp only [List.getElem?_cons_zero, Option.some.injEq] at h
    subst h
    rw [List.foldl_cons, all_keep l _ _ (by simp [aheadStep])]
    simp only [aheadStep, List.getD_eq_getElem?_getD, Nat.add_zero, List.getElem?_append_right (Nat.le_refl _), Nat.sub_self, List.getElem?_cons_zero, Option.getD_some]
    have := (fold_in acc (x.after.toList.filter (Region.binds .any)) []).2 ed (List.mem_filter.2 ⟨Array.mem_toList_iff.2 he, hb⟩)
    simpa only [List.getD_eq_getElem?_getD] using this
  | x :: l, acc, k + 1, o, h => by
    intro ed he hb
    simp only [List.getElem?_cons_succ] at h
    have := all_in l (aheadStep acc x) k o h ed he hb
    rw [List.foldl_cons]
    rwa [show (aheadStep acc x).length + k = acc.length + (k + 1) by simp [aheadStep]; omega] at this
theorem drawX_ok {late : Nat → Bool} (hD : drawOkX late ops = true) : ∀ j o, ops[j]? = some o → (∀ ed ∈ o.after, Region.binds .any ed = true → ed.on < j) ∧
    ∀ i, i < j → Ahead ops i j ∨ (i ∉ (aheadAll ops.toList).getD j [] ∧ ∀ x, ops[i]? = some x → (indep ops x o = true ∨ (late j = true ∧ x.apart ops o = true ∧ o.apart ops x = true)) ∧ (x.dst, o.dst, lightOp x.op, lightOp o.op) ∈ loosePairs ops) := by
  intro j o ho
  have hj : j < ops.size := (Array.getElem?_eq_some_iff.1 ho).1
  have := List.all_eq_true.1 hD j (List.mem_range.2 hj)
  simp only [ho, Bool.and_eq_true, List.all_eq_true] at this
  obtain ⟨h1, h2⟩ := this
  refine ⟨fun ed he hb => ?_, fun i hi => ?_⟩
  · have := h1 ed (Array.mem_toList_iff.2 he)
    simpa [hb] using this
  · have h3 := h2 i (List.mem_range.2 hi)
    by_cases hc : i ∈ (aheadAll ops.toList).getD j []
    · exact .inl (in_ahead hc)
    · rw [Bool.or_eq_true] at h3
      have h3 := h3.resolve_left (by simpa using hc)
      refine .inr ⟨hc, fun x hx => ⟨?_, ?_⟩⟩
      · simp only [hx, Bool.or_eq_true, Bool.and_eq_true] at h3
        exact h3
      · refine List.mem_flatMap.2 ⟨j, List.mem_range.2 hj, List.mem_filterMap.2 ⟨i, List.mem_range.2 hi, ?_⟩⟩
        rw [if_neg (by simpa using hc), hx, ho]
theorem sched_ok (hlow : ∀ j o, ops[j]? = some o → ∀ ed ∈ o.after, Region.binds .any ed = true → ed.on < j) (t : Nat) :
    (Region.schedule true ops t).Perm (List.range ops.size) ∧ (Region.schedule true ops t).Pairwise (fun a b => ¬ Ahead ops b a) := by
  have hsched : Region.schedule true ops t = Region.linearise .any ops t := by simp [Region.schedule]
  rw [hsched]
  have hunl : unl ops.size (Array.replicate ops.size false) = List.range ops.size := by
    unfold unl
    rw [List.filter_eq_self]
    intro j hj
    simp [List.mem_range.1 hj]
  have := go_ok hlow ops.size t (Array.replicate ops.size false) (by simp) (by
    intro j hj
    exfalso
    by_cases hlt : j < ops.size <;> simp [hlt] at hj) (by rw [hunl]; simp)
  rw [hunl] at this
  exact this
theorem cut_at (p : Nat → Bool) : ∀ (l : List Nat), ∃ B1 B2, l = B1 ++ B2 ∧ (∀ b ∈ B1, p b = false) ∧ (∀ k, B2.head? = some k → p k = true)
  | [] => ⟨[], [], rfl, by simp, by simp⟩
  | a :: l => by
    cases h : p a with
    | true => exact ⟨[], a :: l, rfl, by simp, fun k hk => by simp at hk; subst hk; exact h⟩
    | false =>
      obtain ⟨B1, B2, e, h1, h2⟩ := cut_at p l
      refine ⟨a :: B1, B2, by rw [e]; rfl, fun b hb => ?_, h2⟩
      rcases List.mem_cons.1 hb with rfl | hb
      · exact h
      · exact h1 b hb
theorem draw_fine (P : Program) (call : CallFn) (N : Nat) (hC : CallOk P call) (ops : Array Oper) (e : Env) (H : Heap) (e' : Env) (H' : Heap) (lg : Log) (t : Nat) (hG : Good N e H) (hd : ∀ o ∈ ops.toList, ∀ t, o.dst = some t → t < N) (hD : drawOk ops = true)
    (h : opsRun P call ops ops.toList e H [] = some (e', H', lg)) (hf : lg.fine (loosePairs ops) = true) :
    ∃ σ lg', Later ops (Region.schedule true ops t) σ ∧ opsRun P call ops (σ.filterMap (fun i => ops[i]?)) e H [] = some (e', H', lg') := by
  have h3 : opsRun P call ops (lst ops (List.range ops.size)) e H [] = some (e', H', lg) := by
    rw [lst, range_lists]; exact h
  unfold drawOk at hD
  rw [Bool.or_eq_true] at hD
  rcases hD with hD | hD
  · have hD' := drawX_ok hD
    obtain ⟨h1, h2⟩ := sched_ok (fun j o ho => (hD' j o ho).1) t
    obtain ⟨lg', h4⟩ := perm_run hC hd _ (List.range ops.size) e H _ e' H' lg h1 (List.pairwise_lt_range) (h2.imp fun {a b} hab hlt x y hx hy => by
      obtain ⟨h5, h6⟩ := (((hD' a x hx).2 b hlt).resolve_left hab).2 y hy
      exact ⟨h5.resolve_right (by simp), h6⟩) hG h3 hf
    exact ⟨_, lg', .inl rfl, h4⟩
  · rw [List.any_eq_true] at hD
    obtain ⟨j, hj, hD⟩ := hD
    have hj := List.mem_range.1 hj
    rw [Bool.and_eq_true] at hD
    obtain ⟨hL, hD⟩ := hD
    have hD' := drawX_ok hD
    have hlow : ∀ j o, ops[j]? = some o → ∀ ed ∈ o.after, Region.binds .any ed = true → ed.on < j := fun j o ho => (hD' j o ho).1
    unfold lateAt at hL
    rw [Bool.and_eq_true] at hL
    obtain ⟨hL1, hL2⟩ := hL
    obtain ⟨al, hal⟩ : ∃ al, ops[j]? = some al := ⟨ops[j], by simp [hj]⟩
    rw [hal] at hL1
    obtain ⟨tt, T, e1, e2, e3⟩ : ∃ tt T, al.dst = some tt ∧ al.op = .alloc T ∧ al.guard = Option.none := by
      simp only at hL1
      split at hL1
      · rename_i tt T e1 e2 e3; exact ⟨tt, T, e1, e2, e3⟩
      · cases hL1
    have close0 : ∀ k, k < ops.size → j ∈ (aheadAll ops.toList).getD k [] → ∀ i, i < j → Ahead ops i k ∨ ∀ y, ops[i]? = some y → indep ops y al = true := fun k hk hjk i hi => by
      have := List.all_eq_true.1 hL2 k (List.mem_range.2 hk)
      rw [Bool.or_eq_true] at this
      have := this.resolve_left (by simpa using hjk)
      have := List.all_eq_true.1 this i (List.mem_range.2 hi)
      rw [Bool.or_eq_true] at this
      rcases this with h | h
      · exact .inl (in_ahead (by simpa using h))
      · refine .inr fun y hy => ?_
        rw [hy, hal] at h
        exact h
    have close : ∀ k, Ahead ops j k → ∀ i, i < j → Ahead ops i k ∨ ∀ y, ops[i]? = some y → indep ops y al = true := fun k hjk i hi => by
      obtain ⟨k1, o, ed, h1, h2, h3, h4, h5⟩ := ahead_first hjk
      have hm := all_in ops.toList [] k1 o (by simpa using h1) ed h2 h3
      rw [h4, List.length_nil, Nat.zero_add] at hm
      have := close0 k1 (Array.getElem?_eq_some_iff.1 h1).1 hm i hi
      rcases this with this | this
      · rcases h5 with rfl | h5
        · exact .inl this
        · exact .inl (ahead_trans this h5)
      · exact .inr this
    obtain ⟨h1, h2⟩ := sched_ok hlow t
    generalize hσ : Region.schedule true ops t = σ at h1 h2
    have hjσ : j ∈ σ := h1.symm.subset (List.mem_range.2 hj)
    obtain ⟨A, B, rfl⟩ := List.append_of_mem hjσ
    obtain ⟨B1, B2, rfl, hB1', hB2'⟩ := cut_at (fun k => @decide (Ahead ops j k) (Classical.propDecidable _)) B
    have hB1 : ∀ b ∈ B1, ¬ Ahead ops j b := fun b hb => by
      have := hB1' b hb
      exact @of_decide_eq_false _ (Classical.propDecidable _) this
    have hB2 : ∀ k, B2.head? = some k → Ahead ops j k := fun k hk => @of_decide_eq_true _ (Classical.propDecidable _) (hB2' k hk)
    have hnd : (A ++ j :: (B1 ++ B2)).Nodup := h1.symm.nodup List.nodup_range
    have hsz : ∀ k ∈ A ++ j :: (B1 ++ B2), k < ops.size := fun k hk => List.mem_range.1 (h1.subset hk)
    have p1 := List.pairwise_append.1 h2
    have p2 := List.pairwise_cons.1 p1.2.1
    have p3 := List.pairwise_append.1 p2.2
    have n2 := List.nodup_cons.1 (List.nodup_append.1 hnd).2.1
    -- what stands between
    have hap : ∀ i ∈ B1, ∀ o, ops[i]? = some o → tt ∉ o.looksAt ops ∧ o.dst ≠ some tt := by
      intro i hi o ho
      have hne : i ≠ j := fun e => n2.1 (by rw [← e]; simp [hi])
      have hap2 : al.apart ops o = true := by
        rcases Nat.lt_or_gt_of_ne hne with hlt | hlt
        · have := ((hD' j al hal).2 i hlt).resolve_left (p2.1 i (by simp [hi]))
          rcases (this.2 o ho).1 with h5 | h5
          · simp only [indep, Bool.and_eq_true] at h5; exact h5.1.2
          · exact h5.2.2
        · rcases (hD' i o ho).2 j hlt with h5 | h5
          · exact absurd h5 (hB1 i hi)
          · rcases (h5.2 al hal).1 with h6 | h6
            · simp only [indep, Bool.and_eq_true] at h6; exact h6.1.1
            · exact h6.2.1
      obtain ⟨s1, s2, _⟩ := Oper.apart_spec hap2
      exact ⟨s1 tt e1, s2 tt e1⟩
    have hno : ∀ b ∈ B2, b < j → ∀ y, ops[b]? = some y → indep ops y al = true := by
      intro b hb hlt
      cases B2 with
      | nil => cases hb
      | cons k B2 =>
        have hk := hB2 k rfl
        rcases List.mem_cons.1 hb with rfl | hb
        · have := ahead_lt hlow hk; omega
        · exact (close k hk b hlt).resolve_left ((List.pairwise_cons.1 p3.2.1).1 b hb)
    have hperm : (A ++ (B1 ++ j :: B2)).Perm (List.range ops.size) := by
      refine List.Perm.trans ?_ h1
      exact List.Perm.append_left _ List.perm_middle
    have good : ∀ a b, ¬ Ahead ops b a → (a ≠ j ∨ False) → b < a → ∀ x y, ops[a]? = some x → ops[b]? = some y → indep ops y x = true ∧ (y.dst, x.dst, lightOp y.op, lightOp x.op) ∈ loosePairs ops := by
      intro a b hab haj hlt x y hx hy
      obtain ⟨h5, h6⟩ := (((hD' a x hx).2 b hlt).resolve_left hab).2 y hy
      refine ⟨h5.resolve_right fun h7 => ?_, h6⟩
      have : a = j := by simpa using h7.1
      rcases haj with haj | haj
      · exact haj this
      · exact haj
    have hpw : (A ++ (B1 ++ j :: B2)).Pairwise (fun a b => b < a → ∀ x y, ops[a]? = some x → ops[b]? = some y → indep ops y x = true ∧ (y.dst, x.dst, lightOp y.op, lightOp x.op) ∈ loosePairs ops) := by
      have hAj : ∀ a ∈ A, a ≠ j := fun a ha e => by
        have := (List.nodup_append.1 hnd).2.2 a ha j (by simp)
        exact this e
      refine List.pairwise_append.2 ⟨?_, List.pairwise_append.2 ⟨?_, List.pairwise_cons.2 ⟨fun b hb hlt x y hx hy => by
        rw [hal] at hx; cases hx
        exact ⟨hno b hb hlt y hy, (((hD' j al hal).2 b hlt).resolve_left (p2.1 b (by simp [hb]))).2 y hy |>.2⟩, ?_⟩, ?_⟩, ?_⟩
      · exact List.Pairwise.imp_of_mem (fun {a b} ha _ hab => good a b hab (.inl (hAj a ha))) p1.1
      · refine List.Pairwise.imp_of_mem (fun {a b} ha _ hab => good a b hab (.inl fun e => n2.1 (by rw [← e]; simp [ha]))) p3.1
      · refine List.Pairwise.imp_of_mem (fun {a b} ha _ hab => good a b hab (.inl fun e => n2.1 (by rw [← e]; simp [ha]))) p3.2.1
      · intro a ha b hb
        rcases List.mem_cons.1 hb with rfl | hb
        · -- j is made later than a, though written ahead of it
          intro hlt x y hx hy
          exact good a b (hB1 a ha) (.inl (by omega)) hlt x y hx hy
        · exact good a b (p3.2.2 a ha b hb) (.inl fun e => n2.1 (by rw [← e]; simp [ha]))
      · intro a ha b hb
        refine good a b ?_ (.inl (hAj a ha))
        refine p1.2.2 a ha b ?_
        rcases List.mem_append.1 hb with hb | hb
        · simp [hb]
        · rcases List.mem_cons.1 hb with rfl | hb
          · simp
          · simp [hb]
    obtain ⟨lg', h4⟩ := perm_run hC hd _ (List.range ops.size) e H _ e' H' lg hperm (List.pairwise_lt_range) hpw hG h3 hf
    exact ⟨_, lg', .inr ⟨A, j, B1, B2, al, tt, T, rfl, rfl, hal, e1, e2, e3, hap⟩, h4⟩
end

theorem run_ok [Orc] {P : Program} (ho : OrcOk P) (hq : SeqOk P) (hm : P.follows .mixedOrders = true) (k : Nat) : CallOk P (funRun P k) :=
  fun_ok ho hq (fun call hC N ops e H e' H' lg t hG hd hD h hf => draw_fine P call N hC ops e H e' H' lg t hG hd hD h hf) hm k
end Go.Sim

namespace Go.Sim

theorem Fun.calls [Orc] {P : Program} (hm : P.follows .mixedOrders = true) {f : FuncId} {ts : List T} {x : T} (h : Fun P f ts (.t x)) {w : World} {S : Cells} (ho : @OrcOk ⟨w, S⟩ _ P) (hq : @SeqOk ⟨w, S⟩ _ P) {us : List Value} (hS : ∀ b j, S b j → b < w.heap.size) (hl : ts.length = us.length)
    (hv : ∀ i (hi : i < ts.length) (hu : i < us.length), RT w S ts[i] us[i]) :
    Calls P f us.toArray w fun e w' => ∃ v S', e = .returned v ∧ RT w' S' x v ∧ w'.os = w.os ∧ w'.output = w.output ∧ w.heap.size ≤ w'.heap.size ∧ ∀ k, k < w.heap.size → w'.heap[k]? = w.heap[k]? := by
  letI : Base := ⟨w, S⟩
  obtain ⟨k, v, H, h1, h2⟩ := h
  obtain ⟨_, hc⟩ := run_ok ho hq hm k f _ _ v H h1 (dead_exp h2)
  have hb : Stay Base.w Base.S w S := Stay.refl w S
  refine (hc w S [] us (Rel.none hb hS) (by simpa using hl) (fun i hi hu => by rw [List.getElem_map]; exact .t _ _ (hv i (by simpa using hi) hu))).mono ?_
  rintro e w' ⟨u, S', β', rfl, hE, hR, hrv⟩
  obtain ⟨S2, β2, hE2, hR2, hv2⟩ := import_any (Rel.none hb hS) hE hR hrv h2
  have hx : RT w' S2 x u := rv_t hv2
  exact ⟨u, S2, rfl, hx, hE2.below⟩
end Go.Sim
