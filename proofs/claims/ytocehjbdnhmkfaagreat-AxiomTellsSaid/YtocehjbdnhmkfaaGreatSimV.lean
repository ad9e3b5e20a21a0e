/- A part of the proof of a law of module cupola: SimV. It has no conditions of its own. -/
import Derived.Test.YtocehjbdnhmkfaaGreatSimM
set_option linter.all false
/-! Changing places. -/
namespace Go.Sim

theorem Same.refl (H : Heap) (id : Nat) : Same H H id := fun o h => ⟨o, h, rfl, rfl⟩
theorem Same.trans {H H1 H2 : Heap} {id : Nat} (h : Same H H1 id) (k : Same H1 H2 id) : Same H H2 id := fun o ho => by
  obtain ⟨o1, h1, e1, z1⟩ := h o ho
  obtain ⟨o2, h2, e2, z2⟩ := k o1 h1
  exact ⟨o2, h2, e2.trans e1, z2.trans z1⟩
theorem Same.push (H : Heap) (o : Obj) (id : Nat) : Same H (H ++ [o]) id := fun o' h => by
  have hl : id < H.length := by
    rcases Nat.lt_or_ge id H.length with h' | h'
    · exact h'
    · rw [List.getElem?_eq_none h'] at h; cases h
  exact ⟨o', by rw [List.getElem?_append_left hl]; exact h, rfl, rfl⟩
theorem Same.raise {H H' : Heap} (h : Raise H H') (id : Nat) : Same H H' id := fun o ho => by
  obtain ⟨o', h1, h2, h3, _⟩ := h.2 id o ho
  exact ⟨o', h1, h2, h3⟩
theorem Same.set {H : Heap} {id id' : Nat} (o : Obj) (h : id' ≠ id) : Same H (H.set id' o) id := fun o' ho => ⟨o', by rw [List.getElem?_set_ne h]; exact ho, rfl, rfl⟩

theorem import_same (H : Heap) (u : V) (id : Nat) : Same H (importV H u).2 id := by
  cases u with
  | fr e s xs => exact Same.push _ _ _
  | _ => exact Same.refl _ _

theorem light_refl {P : Program} {op : Op} {e : Env} {H : Heap} {r : Res} (hl : lightOp op = true) (h : opRun P op e H = some r) (hb : r.eff ≠ .bad) (id : Nat) : Same H r.H id := by
  rcases light_ok hl h with h1 | ⟨h1, _⟩
  · exact absurd h1 hb
  · rw [h1]; exact Same.refl _ _

/-- What an operation leaves as it was. -/
theorem keeps_ok {P : Program} {call : CallFn} {op : Op} {e : Env} {H : Heap} {r : Res} (h : opRunC P call op e H = some r) (id : Nat) (hb : r.eff ≠ .bad) (hg : r.eff ≠ .grow id) (hw : r.eff ≠ .wild) : Same H r.H id := by
  by_cases hl : lightOp op = true
  · have h' : opRun P op e H = some r := by
      cases op with
      | call c => obtain ⟨callee, as, ts⟩ := c; cases callee <;> first | exact h | simp [lightOp] at hl
      | _ => exact h
    exact light_refl hl h' hb id
  · cases op with
    | alloc t =>
      simp only [opRunC, opRun] at h
      split at h
      · split at h
        · cases h; exact Same.push _ _ _
        · cases h
      · cases h
    | box t x =>
      simp only [opRunC, opRun] at h
      split at h
      · split at h
        · cases h; exact Same.push _ _ _
        · cases h
      · cases h
    | store t x y =>
      exfalso
      simp only [opRunC, opRun] at h
      split at h
      · unfold storeV at h
        split at h
        · simp only [Option.bind_eq_some_iff] at h
          obtain ⟨_, _, _, _, h⟩ := h
          split at h
          · simp only [Option.bind_eq_some_iff] at h
            obtain ⟨_, _, h⟩ := h
            cases h; exact hw rfl
          · cases h
        · cases h
      · cases h
    | makeSlice t l c =>
      simp only [opRunC, opRun] at h
      split at h
      · unfold makeV at h
        split at h
        · simp only [Option.bind_eq_some_iff] at h
          obtain ⟨_, _, _, _, h⟩ := h
          split at h
          · cases h; exact Same.push _ _ _
          · cases h
        · cases h
      · cases h
    | call c =>
      obtain ⟨callee, as, ts⟩ := c
      cases callee with
      | value f =>
        have key : ∀ fid vs, callRun P call fid vs H = some r → Same H r.H id := by
          intro fid vs hc
          unfold callRun at hc
          split at hc
          · split at hc
            · split at hc
              · simp only [Option.some.injEq] at hc; subst hc
                refine Same.trans ?_ (import_same _ _ _)
                split
                · exact Same.refl _ _
                · exact Same.raise (fold_raise _ _ _) _
              · cases hc
            · cases hc
          · split at hc
            · simp only [Option.some.injEq] at hc; subst hc; exact absurd rfl hw
            · cases hc
        simp only [opRunC] at h
        split at h
        · exact key _ _ h
        · exact key _ _ h
        · cases h
      | builtin b =>
        simp only [opRunC, opRun] at h
        split at h
        · exact absurd rfl hl
        · -- append
          simp only [Option.bind_eq_some_iff] at h
          obtain ⟨_, _, _, _, h⟩ := h
          split at h
          · simp only [Option.bind_eq_some_iff] at h
            obtain ⟨ys, _, h⟩ := h
            unfold appendV at h
            simp only [Option.bind_eq_some_iff] at h
            obtain ⟨p, _, h⟩ := h
            split at h
            · split at h
              · split at h
                · simp [ret] at h; subst h; exact Same.refl _ _
                · split at h
                  · cases h; exact Same.push _ _ _
                  · cases h
              · simp only [Option.bind_eq_some_iff] at h
                obtain ⟨o, _, h⟩ := h
                split at h
                · simp [ret] at h; subst h; exact Same.refl _ _
                · split at h
                  · cases h
                    exact Same.set _ (fun e => hg (by rw [e]))
                  · cases h
              · cases h
            · cases h
          · cases h
        · -- copy
          exfalso
          simp only [Option.bind_eq_some_iff] at h
          obtain ⟨_, _, h⟩ := h
          split at h
          · unfold copyV at h
            split at h
            · split at h
              · split at h
                · cases h; exact hw rfl
                · cases h
              · cases h
            · cases h
          · cases h
        · exact absurd rfl hl
        · exact absurd rfl hl
        · cases h
      | invoke r n => simp [opRunC, opRun] at h
    | _ => first | exact absurd rfl hl | (simp [opRunC, opRun] at h; done)


/-! ### What was told has a world -/

theorem calls_some {P : Program} {f : FuncId} {us : Array Value} {w : World} {R : Ending → World → Prop} (h : Calls P f us w R) : ∃ x w', R x w' := by
  obtain ⟨x, w', _, hr, _⟩ := h []
  exact ⟨x, w', hr⟩

theorem good_call {P : Program} {call : CallFn} (hC : CallOk P call) {N : Nat} {e : Env} {H : Heap} {fid : FuncId} {vs : List V} {r : Res} {w : World} {S : Cells} {β : Bl} {a : Act} (hR : Rel w S H β) (hA : AgreeA N w S H β e a)
    (hv : ∀ v ∈ vs, ∃ u, RV w S H β v u) (h : callRun P call fid vs H = some r) {d : Option Tmp} (hd : ∀ t, d = some t → t < N) : Good N (putO e d r.v) r.H := by
  have hus : ∃ us : List Value, vs.length = us.length ∧ ∀ i (hi : i < vs.length) (hu : i < us.length), RV w S H β vs[i] us[i] := by
    clear h
    induction vs with
    | nil => exact ⟨[], rfl, fun i hi => by simp at hi⟩
    | cons v vs ih =>
      obtain ⟨us, h1, h2⟩ := ih fun x hx => hv x (by simp [hx])
      obtain ⟨u, hu⟩ := hv v (by simp)
      refine ⟨u :: us, by simp [h1], fun i hi hu' => ?_⟩
      cases i with
      | zero => exact hu
      | succ i => exact h2 i (by simpa using hi) (by simpa using hu')
  obtain ⟨us, h1, h2⟩ := hus
  obtain ⟨_, hcalls⟩ := call_ok hC h
  obtain ⟨x, w', u, S', β', _, hE, hR', hv'⟩ := calls_some (hcalls w S β us hR h1 h2)
  exact ⟨w', S', β', _, hR', (hA.mono hE.stay hE.grow).put hd hv'⟩

theorem good_step {P : Program} {call : CallFn} (hC : CallOk P call) {N : Nat} {e : Env} {H : Heap} {op : Op} {r : Res} (hG : Good N e H) (h : opRunC P call op e H = some r) {d : Option Tmp} (hd : ∀ t, d = some t → t < N) : Good N (putO e d r.v) r.H := by
  obtain ⟨w, S, β, a, hR, hA⟩ := hG
  have plain : opRun P op e H = some r → Good N (putO e d r.v) r.H := by
    intro hop
    obtain ⟨u, w1, S1, β1, _, hE1, hR1, hv1⟩ := d_op (ρ := a.eval) (dst := d) (ty := 0) (pos := "") (af := #[]) (g := none) hR hA.2.2 hop
    exact ⟨w1, S1, β1, _, hR1, (hA.mono hE1.stay hE1.grow).put hd hv1⟩
  have hargs : ∀ {l : List Operand} {vs : List V}, evs e l = some vs → ∀ v ∈ vs, ∃ u, RV w S H β v u := by
    intro l vs hvs v hv
    obtain ⟨h1, h2⟩ := evs_rv hA.2.2 hvs
    obtain ⟨i, hi, rfl⟩ := List.mem_iff_getElem.1 hv
    exact ⟨_, h2 i hi (by simp; omega)⟩
  unfold opRunC at h
  split at h
  · split at h
    · rename_i fid vs hf hvs
      exact good_call hC hR hA (hargs hvs) h hd
    · rename_i fid fst cap vs hf hvs
      refine good_call hC hR hA ?_ h hd
      intro v hv
      have hfv := hA.2.2 _ _ hf
      generalize a.eval _ = q at hfv
      cases hfv with
      | fn _ _ _ us1 us2 hl1 hl2 h1 h2 =>
        rcases List.mem_append.1 hv with hv | hv
        · rcases List.mem_append.1 hv with hv | hv
          · obtain ⟨i, hi, rfl⟩ := List.mem_iff_getElem.1 hv
            exact ⟨_, h1 i hi (by omega)⟩
          · exact hargs hvs v hv
        · obtain ⟨i, hi, rfl⟩ := List.mem_iff_getElem.1 hv
          exact ⟨_, h2 i hi (by omega)⟩
    · cases h
  · exact plain h

theorem good_dead {N : Nat} {e : Env} {H : Heap} (hG : Good N e H) {d : Option Tmp} (hd : ∀ t, d = some t → t < N) : Good N (putO e d .dead) H := by
  obtain ⟨w, S, β, a, hR, hA⟩ := hG
  exact ⟨w, S, β, _, hR, hA.put (u := undef) hd .dead⟩

theorem good_id {N : Nat} {e : Env} {H : Heap} (hG : Good N e H) {x : Operand} {v : V} (hv : ev e x = some v) {id : Nat} (h : (∃ n, v = .ref id n) ∨ ∃ n i off, v = .ptr id n i off) : ∃ o : Obj, H[id]? = some o := by
  obtain ⟨w, S, β, a, hR, hA⟩ := hG
  have hr := hA.2.2 x v hv
  generalize a.eval x = q at hr
  rcases h with ⟨n, rfl⟩ | ⟨n, i, off, rfl⟩
  · cases hr with | ref _ _ _ hok => obtain ⟨_, o, ho, _⟩ := hok; exact ⟨o, ho⟩
  · cases hr with | ptr _ _ _ _ _ hok => obtain ⟨_, o, ho, _⟩ := hok; exact ⟨o, ho⟩

/-! ### Two neighbours -/

theorem ev_putO {e : Env} {d : Option Tmp} {v : V} {x : Operand} (h : ∀ t, d = some t → x ≠ .tmp t) : ev (putO e d v) x = ev e x := by
  cases d with
  | none => rfl
  | some t =>
    cases x with
    | tmp s =>
      have : s ≠ t := fun e => h t rfl (by rw [e])
      simp [ev, putO, put, this]
    | _ => rfl

theorem opC_put {P : Program} {call : CallFn} {ops : Array Oper} {o : Oper} {e : Env} {H : Heap} {d : Option Tmp} {v : V} (h : ∀ t, d = some t → t ∉ o.looksAt ops) : opRunC P call o.op (putO e d v) H = opRunC P call o.op e H :=
  opC_congr fun x hx => ev_putO fun t ht hxt => h t ht (by
    subst hxt
    exact List.mem_append_left _ (List.mem_filterMap.2 ⟨.tmp t, by simpa using hx, rfl⟩))

theorem want_put {ops : Array Oper} {o : Oper} {e : Env} {d : Option Tmp} {v : V} (h : ∀ t, d = some t → t ∉ o.looksAt ops) : wantedV ops (putO e d v) o = wantedV ops e o := by
  unfold wantedV
  cases hg : o.guard with
  | none => rfl
  | some p =>
    obtain ⟨j, want⟩ := p
    simp only
    have : yieldV ops (putO e d v) j = yieldV ops e j := by
      unfold yieldV
      cases hb : (ops[j]?).bind (·.dst) with
      | none => rfl
      | some t =>
        simp only
        have hne : ∀ s, d = some s → s ≠ t := fun s hs e => h s hs (by subst e; simp [Oper.looksAt, hg, hb])
        have : putO e d v t = e t := by
          cases d with
          | none => rfl
          | some s => simp [putO, put, (hne s rfl).symm]
        rw [this]
    rw [this]

theorem putO_comm {e : Env} {d d' : Option Tmp} {v v' : V} (h : ∀ t, d = some t → d' ≠ some t) : putO (putO e d v) d' v' = putO (putO e d' v') d v := by
  cases d with
  | none => rfl
  | some t =>
    cases d' with
    | none => rfl
    | some s =>
      have hne : s ≠ t := fun e => h t rfl (by rw [e])
      funext x
      simp only [putO, put]
      by_cases h1 : x = s
      · by_cases h2 : x = t
        · exact absurd (h1.symm.trans h2) hne
        · simp [h1, hne]
      · by_cases h2 : x = t
        · subst h2; simp [h1]
        · simp [h1, h2]

/-- Two logs tell of the same. -/
def LogEq (l l' : Log) : Prop := ∀ a, a ∈ l ↔ a ∈ l'

theorem LogEq.refl (l : Log) : LogEq l l := fun _ => Iff.rfl
theorem LogEq.trans {l l1 l2 : Log} (h : LogEq l l1) (k : LogEq l1 l2) : LogEq l l2 := fun a => (h a).trans (k a)
theorem LogEq.symm {l l' : Log} (h : LogEq l l') : LogEq l' l := fun a => (h a).symm
theorem mem_add {l : Log} {d : Option Tmp} {f : Eff} {a : Option Tmp × Eff} : a ∈ l.add d f ↔ a ∈ l ∨ (a = (d, f) ∧ f ≠ .none) := by
  cases f <;> simp [Log.add] <;> exact Or.comm
theorem LogEq.add {l l' : Log} (h : LogEq l l') (d : Option Tmp) (f : Eff) : LogEq (l.add d f) (l'.add d f) := fun a => by
  rw [mem_add, mem_add, h a]
theorem LogEq.swap (l : Log) (d d' : Option Tmp) (f g : Eff) : LogEq ((l.add d f).add d' g) ((l.add d' g).add d f) := fun a => by
  simp only [mem_add, or_assoc]
  constructor <;> (intro h; rcases h with h | h | h <;> simp [h])

theorem ops_log {P : Program} {call : CallFn} {ops : Array Oper} : ∀ {l : List Oper} {e : Env} {H : Heap} {lg lg' : Log} {e' : Env} {H' : Heap} {lg1 : Log}, LogEq lg lg' → opsRun P call ops l e H lg = some (e', H', lg1) →
    ∃ lg2, opsRun P call ops l e H lg' = some (e', H', lg2) ∧ LogEq lg1 lg2 := by
  intro l
  induction l with
  | nil =>
    intro e H lg lg' e' H' lg1 hl h
    simp only [opsRun, Option.some.injEq, Prod.mk.injEq] at h
    obtain ⟨rfl, rfl, rfl⟩ := h
    exact ⟨lg', rfl, hl⟩
  | cons o l ih =>
    intro e H lg lg' e' H' lg1 hl h
    simp only [opsRun] at h ⊢
    split at h
    · rename_i hw
      split at h
      · rename_i v H1 f hrun
        try rw [hrun]
        exact ih (hl.add _ f) h
      · cases h
    · rename_i hw
      exact ih hl h
    · cases h

/-- The log tells of all. -/
theorem log_more {P : Program} {call : CallFn} {ops : Array Oper} : ∀ {l : List Oper} {e : Env} {H : Heap} {lg : Log} {e' : Env} {H' : Heap} {lg1 : Log}, opsRun P call ops l e H lg = some (e', H', lg1) → ∀ a, a ∈ lg → a ∈ lg1 := by
  intro l
  induction l with
  | nil =>
    intro e H lg e' H' lg1 h
    simp only [opsRun, Option.some.injEq, Prod.mk.injEq] at h
    obtain ⟨rfl, rfl, rfl⟩ := h
    exact fun _ h => h
  | cons o l ih =>
    intro e H lg e' H' lg1 h
    simp only [opsRun] at h
    split at h
    · split at h
      · rename_i v H1 f hrun
        exact fun a ha => ih h a (mem_add.2 (.inl ha))
      · cases h
    · exact ih h
    · cases h

theorem fine_eq {L : List (Option Tmp × Option Tmp)} {l l' : Log} (h : LogEq l l') (hf : l.fine L = true) : l'.fine L = true := by
  simp only [Log.fine, List.all_eq_true, Bool.and_eq_true] at hf ⊢
  intro p hp a ha
  obtain ⟨h1, h2⟩ := hf p hp a ((h a).2 ha)
  exact ⟨h1, fun b hb => h2 b ((h b).2 hb)⟩

theorem fine_pair {L : List (Option Tmp × Option Tmp)} {l : Log} (hf : l.fine L = true) {d d' : Option Tmp} (hp : (d, d') ∈ L) {f g : Eff} (h1 : f ≠ .none → (d, f) ∈ l) (h2 : g ≠ .none → (d', g) ∈ l) :
    f ≠ .bad ∧ g ≠ .bad ∧ (∀ id, f = .load id → g ≠ .grow id ∧ g ≠ .wild) ∧ (∀ id, g = .load id → f ≠ .grow id ∧ f ≠ .wild) := by
  simp only [Log.fine, List.all_eq_true, Bool.and_eq_true] at hf
  have hf := hf _ hp
  refine ⟨?_, ?_, ?_, ?_⟩
  · rintro rfl
    have := (hf _ (h1 (by simp))).1
    simp [Eff.isBad] at this
  · rintro rfl
    have := (hf _ (h2 (by simp))).1
    simp [Eff.isBad] at this
  · rintro id rfl
    refine ⟨?_, ?_⟩
    · rintro rfl
      have := (hf _ (h1 (by simp))).2 _ (h2 (by simp))
      simp [Eff.swaps] at this
    · rintro rfl
      have := (hf _ (h1 (by simp))).2 _ (h2 (by simp))
      simp [Eff.swaps] at this
  · rintro id rfl
    refine ⟨?_, ?_⟩
    · rintro rfl
      have := (hf _ (h1 (by simp))).2 _ (h2 (by simp))
      simp [Eff.swaps] at this
    · rintro rfl
      have := (hf _ (h1 (by simp))).2 _ (h2 (by simp))
      simp [Eff.swaps] at this

theorem light_callee {P : Program} {call : CallFn} {op : Op} {e : Env} {H : Heap} (hl : lightOp op = true) : opRunC P call op e H = opRun P op e H := by
  cases op with
  | call c => obtain ⟨callee, as, ts⟩ := c; cases callee <;> first | rfl | simp [lightOp] at hl
  | _ => rfl

/-- Two neighbours change places: what both do. -/
theorem swap_run {P : Program} {call : CallFn} {N : Nat} {e : Env} {H Ha Hs : Heap} {x y : Op} {va vs : V} {fa fs : Eff} (hG : Good N e H) (hl : lightOp x = true ∨ lightOp y = true)
    (hx : opRunC P call x e H = some ⟨va, Ha, fa⟩) (hy : opRunC P call y e Ha = some ⟨vs, Hs, fs⟩) (hb1 : fa ≠ .bad) (hb2 : fs ≠ .bad)
    (h1 : ∀ id, fa = .load id → fs ≠ .grow id ∧ fs ≠ .wild) (h2 : ∀ id, fs = .load id → fa ≠ .grow id ∧ fa ≠ .wild) :
    ∃ H2, opRunC P call y e H = some ⟨vs, H2, fs⟩ ∧ opRunC P call x e H2 = some ⟨va, Hs, fa⟩ := by
  by_cases hlx : lightOp x = true
  · -- the first is light
    have hx' := hx
    rw [light_callee hlx] at hx'
    rcases light_ok hlx hx' with hb | ⟨hH, hany, hfrom⟩
    · exact absurd hb hb1
    · simp only at hH; subst hH
      refine ⟨Hs, hy, ?_⟩
      rw [light_callee hlx]
      refine hany Hs ?_
      rcases hfrom with hn | ⟨id, hid, _⟩
      · exact .inl hn
      · obtain ⟨n1, n2⟩ := h1 id hid
        exact .inr ⟨id, hid, keeps_ok hy id hb2 n1 n2⟩
  · have hly : lightOp y = true := hl.resolve_left hlx
    have hy' := hy
    rw [light_callee hly] at hy'
    rcases light_ok hly hy' with hb | ⟨hH, hany, hfrom⟩
    · exact absurd hb hb2
    · simp only at hH; subst hH
      refine ⟨H, ?_, hx⟩
      rw [light_callee hly]
      refine hany H ?_
      rcases hfrom with hn | ⟨id, hid, o, v, hv, hk⟩
      · exact .inl hn
      · obtain ⟨n1, n2⟩ := h2 id hid
        have hsame := keeps_ok hx id hb1 n1 n2
        obtain ⟨ob, hob⟩ := good_id hG hv hk
        refine .inr ⟨id, hid, fun o' ho' => ?_⟩
        obtain ⟨o2, h3, h4, h5⟩ := hsame ob hob
        simp only at h3
        rw [ho'] at h3; cases h3
        exact ⟨ob, hob, h4.symm, h5.symm⟩

theorem indep_spec {ops : Array Oper} {x y : Oper} (h : indep ops x y = true) :
    (∀ t, x.dst = some t → t ∉ y.looksAt ops) ∧ (∀ t, y.dst = some t → t ∉ x.looksAt ops) ∧ (∀ t, x.dst = some t → y.dst ≠ some t) ∧ (lightOp x.op = true ∨ lightOp y.op = true) := by
  simp only [indep, Bool.and_eq_true, Bool.or_eq_true] at h
  obtain ⟨⟨h1, h2⟩, h3⟩ := h
  obtain ⟨a1, a2, a3⟩ := Oper.apart_spec h1
  exact ⟨a1, a3, a2, h3⟩

theorem swap_ops {P : Program} {call : CallFn} {ops : Array Oper} {N : Nat} {x y : Oper} {B : List Oper} {e : Env} {H : Heap} {lg : Log} {e' : Env} {H' : Heap} {lg1 : Log} (hG : Good N e H) (hi : indep ops x y = true)
    (h : opsRun P call ops (x :: y :: B) e H lg = some (e', H', lg1)) {L : List (Option Tmp × Option Tmp)} (hp : (x.dst, y.dst) ∈ L) (hf : lg1.fine L = true) : ∃ lg2, opsRun P call ops (y :: x :: B) e H lg = some (e', H', lg2) ∧ LogEq lg1 lg2 := by
  obtain ⟨a1, a2, a3, a4⟩ := indep_spec hi
  have a3' : ∀ t, y.dst = some t → x.dst ≠ some t := fun t ht hx => a3 t hx ht
  simp only [opsRun] at h ⊢
  split at h
  · rename_i hwx
    split at h
    · rename_i va Ha fa hx
      rw [want_put a1] at h
      split at h
      · rename_i hwy
        split at h
        · rename_i vs Hs fs hy
          rw [opC_put a1] at hy
          -- the log
          have hlog := log_more h
          obtain ⟨hb1, hb2, h1, h2⟩ := fine_pair hf hp (f := fa) (g := fs) (fun hn => hlog _ (mem_add.2 (.inl (mem_add.2 (.inr ⟨rfl, hn⟩))))) (fun hn => hlog _ (mem_add.2 (.inr ⟨rfl, hn⟩)))
          obtain ⟨H2, h3, h4⟩ := swap_run hG a4 hx hy hb1 hb2 h1 h2
          rw [h3]
          simp only
          rw [want_put a2, hwx]
          simp only
          rw [opC_put a2, h4]
          simp only
          rw [putO_comm a3']
          exact ops_log (LogEq.swap lg _ _ fa fs) h
        · cases h
      · rename_i hwy
        rw [want_put a2, hwx]
        simp only
        rw [opC_put a2, hx]
        simp only
        rw [putO_comm a3']
        exact ⟨lg1, h, LogEq.refl _⟩
      · cases h
    · cases h
  · rename_i hwx
    rw [want_put a1] at h
    split at h
    · rename_i hwy
      split at h
      · rename_i vs Hs fs hy
        rw [opC_put a1] at hy
        rw [hy]
        simp only
        rw [want_put a2, hwx]
        simp only
        rw [putO_comm a3']
        exact ⟨lg1, h, LogEq.refl _⟩
      · cases h
    · rename_i hwy
      rw [want_put a2, hwx]
      simp only
      rw [putO_comm a3']
      exact ⟨lg1, h, LogEq.refl _⟩
    · cases h
  · cases h
end Go.Sim
