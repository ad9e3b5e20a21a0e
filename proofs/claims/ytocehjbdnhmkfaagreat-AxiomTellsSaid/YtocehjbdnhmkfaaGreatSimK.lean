/- A part of the proof of a law of module cupola: SimK. It has no conditions of its own. -/
import Derived.Test.YtocehjbdnhmkfaaGreatSimJ
set_option linter.all false
/-! Regions, code, functions. -/
namespace Go.Sim

/-- Temporaries, told and true, in a function of so many. -/
def AgreeA (N : Nat) (w : World) (S : Cells) (H : Heap) (β : Bl) (e : Env) (a : Act) : Prop := a.defers = [] ∧ N ≤ a.tmps.size ∧ Agree w S H β e a.eval

theorem AgreeA.mono {N : Nat} {w w' : World} {S S' : Cells} {H H' : Heap} {β β' : Bl} {e : Env} {a : Act} (h : AgreeA N w S H β e a) (hs : Stay w S w' S') (hg : Grow H β H' β') : AgreeA N w' S' H' β' e a :=
  ⟨h.1, h.2.1, h.2.2.mono hs hg⟩

theorem AgreeA.put {N : Nat} {w : World} {S : Cells} {H : Heap} {β : Bl} {e : Env} {a : Act} (h : AgreeA N w S H β e a) {d : Option Tmp} (hd : ∀ t, d = some t → t < N) {v : V} {u : Value} (hv : RV w S H β v u) :
    AgreeA N w S H β (putO e d v) (a.put d u) := by
  cases d with
  | none => exact h
  | some t =>
    have ht := hd t rfl
    refine ⟨h.1, by simpa [Act.put] using h.2.1, fun x y hx => ?_⟩
    cases x with
    | tmp s =>
      simp only [ev, putO, Go.Sim.put, Option.some.injEq] at hx
      by_cases e : s = t
      · subst e
        simp only [if_true] at hx; subst hx
        have : s < a.tmps.size := Nat.lt_of_lt_of_le ht h.2.1
        simpa [Act.put, Act.eval, this] using hv
      · rw [if_neg e] at hx; subst hx
        have := h.2.2 (.tmp s) _ rfl
        simpa [Act.put, Act.eval, Array.getElem?_setIfInBounds_ne (fun h => e h.symm)] using this
    | const c => exact h.2.2 (.const c) y hx
    | func f => exact h.2.2 (.func f) y hx
    | global g => simp [ev] at hx

theorem yield_ok {N : Nat} {w : World} {S : Cells} {H : Heap} {β : Bl} {e : Env} {a : Act} (h : AgreeA N w S H β e a) {ops : Array Oper} {j : Nat} {y : Option Bool} (hy : yieldV ops e j = some y) : yielded ops a.tmps j = y := by
  unfold yieldV at hy
  unfold yielded
  cases hd : (ops[j]?).bind (·.dst) with
  | none => simp [hd] at hy
  | some t =>
    simp only [hd] at hy
    have ht := h.2.2 (.tmp t) (e t) rfl
    simp only [Act.eval] at ht
    simp only [Option.bind_some]
    split at hy
    · rename_i b hb
      cases hy
      rw [hb] at ht
      have := rv_bool ht
      cases hg : a.tmps[t]? with
      | none => simp only [Array.getD_eq_getD_getElem?, hg, Option.getD_none] at this; cases this
      | some q => simp [Array.getD_eq_getD_getElem?, hg] at this; subst this; rfl
    · rename_i hb
      cases hy
      rw [hb] at ht
      cases hg : a.tmps[t]? with
      | none => rfl
      | some q =>
        simp only [Array.getD_eq_getD_getElem?, hg, Option.getD_some] at ht
        cases ht
        rfl
    · cases hy

theorem wanted_ok {N : Nat} {w : World} {S : Cells} {H : Heap} {β : Bl} {e : Env} {a : Act} (h : AgreeA N w S H β e a) {ops : Array Oper} {o : Oper} {b : Bool} (hy : wantedV ops e o = some b) : Region.wanted o (yielded ops a.tmps) = b := by
  unfold wantedV at hy
  unfold Region.wanted
  cases hg : o.guard with
  | none => simp [hg] at hy; simp [hy]
  | some p =>
    obtain ⟨j, want⟩ := p
    simp only [hg] at hy ⊢
    cases hj : yieldV ops e j with
    | none => simp [hj] at hy
    | some y =>
      simp [hj] at hy
      rw [yield_ok h hj]; exact hy


theorem range_lists (ops : Array Oper) : (List.range ops.size).filterMap (fun i => ops[i]?) = ops.toList := by
  have : ∀ l : List Oper, (List.range l.length).filterMap (fun i => l[i]?) = l := by
    intro l
    induction l with
    | nil => rfl
    | cons x l ih =>
      rw [List.length_cons, List.range_succ_eq_map, List.filterMap_cons]
      simp only [List.getElem?_cons_zero, List.filterMap_map]
      congr 1
  have h := this ops.toList
  simpa using h

/-- What comes of a row of operations, in the order in which they are told. -/
theorem ops_ok {P : Program} {call : CallFn} (hC : CallOk P call) {N : Nat} {ops : Array Oper} {Q : Exit → Act → World → Prop} : ∀ (idxs : List Nat) (e : Env) (H : Heap) (lg : Log) (e' : Env) (H' : Heap) (lg' : Log),
    opsRun P call ops (idxs.filterMap (fun i => ops[i]?)) e H lg = some (e', H', lg') → (∀ o ∈ ops.toList, ∀ d, o.dst = some d → d < N) →
    ∀ (w : World) (S : Cells) (β : Bl) (a : Act), Rel w S H β → AgreeA N w S H β e a →
    (∀ a' w' S' β', Ext w S H β w' S' H' β' → Rel w' S' H' β' → AgreeA N w' S' H' β' e' a' → Q .normal a' w') → wpOps P ops Q idxs a w := by
  intro idxs
  induction idxs with
  | nil =>
    intro e H lg e' H' lg' h _ w S β a hR hA hQ
    simp [opsRun] at h
    obtain ⟨rfl, rfl, rfl⟩ := h
    exact hQ a w S β (Ext.refl _ _ _ _) hR hA
  | cons i idxs ih =>
    intro e H lg e' H' lg' h hN w S β a hR hA hQ
    unfold wpOps
    cases hi : ops[i]? with
    | none =>
      simp only [List.filterMap_cons, hi] at h
      exact ih e H lg e' H' lg' h hN w S β a hR hA hQ
    | some o =>
      have hNo : ∀ t, o.dst = some t → t < N := fun t ht => hN o (Array.mem_toList_iff.2 (Array.mem_of_getElem? hi)) t ht
      simp only [List.filterMap_cons, hi, opsRun] at h
      simp only
      split at h
      · rename_i hw
        rw [wanted_ok hA hw, if_pos rfl]
        left
        split at h
        · rename_i v H1 f0 hrun
          have next : ∀ (u : Value) (w1 : World) (S1 : Cells) (β1 : Bl), Ext w S H β w1 S1 H1 β1 → Rel w1 S1 H1 β1 → RV w1 S1 H1 β1 v u → wpOps P ops Q idxs (a.put o.dst u) w1 := by
            intro u w1 S1 β1 hE1 hR1 hv1
            exact ih _ H1 _ e' H' lg' h hN w1 S1 β1 _ hR1 ((hA.mono hE1.stay hE1.grow).put hNo hv1) (fun a' w' S' β' hE hR' hA' => hQ a' w' S' β' (hE1.trans hE) hR' hA')
          have plain : opRun P o.op e H = some ⟨v, H1, f0⟩ → o.wp P a w (wpOps P ops Q idxs) Q := by
            intro hop
            obtain ⟨u, w1, S1, β1, hx, hE1, hR1, hv1⟩ := d_op (ρ := a.eval) (dst := o.dst) (ty := o.type) (pos := o.pos) (af := o.after) (g := o.guard) hR hA.2.2 hop
            unfold Oper.wp
            rcases hx with hx | ⟨hx, rfl⟩
            · have hx' : (execOp a.eval o).run P w = .ok (.value u) w1 := hx
              rw [hx', Oper.upon_value]
              exact next u w1 S1 β1 hE1 hR1 hv1
            · have hx' : (execOp a.eval o).run P w = .ok .skip w1 := hx
              rw [hx', Oper.upon_skip]
              exact next undef w1 S1 β1 hE1 hR1 hv1
          have enter : ∀ (f : Operand) (args : Array Operand) (ts : Array TypeId) (fid : FuncId) (fst cap : List V) (vs : List V) (us1 us2 : List Value),
              o.op = .call { callee := .value f, args := args, argTypes := ts } → evs e args.toList = some vs → a.eval f = .func (.func fid) us1.toArray us2.toArray → fst.length = us1.length → cap.length = us2.length →
              (∀ i (hi : i < fst.length) (hu : i < us1.length), RV w S H β fst[i] us1[i]) → (∀ i (hi : i < cap.length) (hu : i < us2.length), RV w S H β cap[i] us2[i]) →
              callRun P call fid (fst ++ vs ++ cap) H = some ⟨v, H1, f0⟩ → o.wp P a w (wpOps P ops Q idxs) Q := by
            intro f args ts fid fst cap vs us1 us2 hop hvs hf hl1 hl2 h1 h2 hcall
            obtain ⟨⟨fn, hfn, hbody, hname⟩, hcalls⟩ := call_ok hC hcall
            obtain ⟨hvl, hvr⟩ := evs_rv hA.2.2 hvs
            have hrv : ∀ i (hi : i < (fst ++ vs ++ cap).length) (hu : i < (us1 ++ args.toList.map a.eval ++ us2).length), RV w S H β (fst ++ vs ++ cap)[i] (us1 ++ args.toList.map a.eval ++ us2)[i] := by
              intro i hi hu
              rcases Nat.lt_or_ge i fst.length with h3 | h3
              · have e1 : (fst ++ vs ++ cap)[i] = fst[i] := by
                  simp only [List.append_assoc]
                  rw [List.getElem_append_left h3]
                have e2 : (us1 ++ args.toList.map a.eval ++ us2)[i] = us1[i]'(by omega) := by
                  simp only [List.append_assoc]
                  rw [List.getElem_append_left (by omega)]
                rw [e1, e2]; exact h1 i h3 (by omega)
              · rcases Nat.lt_or_ge (i - fst.length) vs.length with h4 | h4
                · have e1 : (fst ++ vs ++ cap)[i] = vs[i - fst.length] := by
                    simp only [List.append_assoc]
                    rw [List.getElem_append_right h3, List.getElem_append_left h4]
                  have h5 : i - us1.length < (args.toList.map a.eval).length := by simp at hvl ⊢; omega
                  have e2 : (us1 ++ args.toList.map a.eval ++ us2)[i] = (args.toList.map a.eval)[i - us1.length] := by
                    simp only [List.append_assoc]
                    rw [List.getElem_append_right (by omega), List.getElem_append_left h5]
                  rw [e1, e2]
                  have := hvr (i - fst.length) h4 (by rw [hl1]; exact h5)
                  simpa only [hl1] using this
                · have h6 : i - fst.length - vs.length < cap.length := by simp at hi; omega
                  have e1 : (fst ++ vs ++ cap)[i] = cap[i - fst.length - vs.length] := by
                    simp only [List.append_assoc]
                    rw [List.getElem_append_right h3, List.getElem_append_right h4]
                  have hvl' : (args.toList.map a.eval).length = vs.length := by simp at hvl ⊢; omega
                  have e2 : (us1 ++ args.toList.map a.eval ++ us2)[i] = us2[i - us1.length - (args.toList.map a.eval).length]'(by omega) := by
                    simp only [List.append_assoc]
                    rw [List.getElem_append_right (by omega), List.getElem_append_right (by omega)]
                  rw [e1, e2]
                  have := h2 (i - fst.length - vs.length) h6 (by omega)
                  simpa only [hl1, hvl'] using this
            have hrun2 : (execOp a.eval o).run P w = .ok (.enter fid (us1 ++ args.toList.map a.eval ++ us2).toArray) w := by
              have e3 : (us1 ++ args.toList.map a.eval ++ us2).toArray = us1.toArray ++ args.map a.eval ++ us2.toArray := by
                apply Array.ext'; simp
              unfold execOp
              rw [hop]
              simp only [resolve, hf, Deferred.ofValue, Sem.run_bind, Sem.run_pure, Result.andThen_ok, invoke]
              rw [e3]
              unfold callFunc
              have hn : fn.name ≠ "runtime.NumGoroutine" := by simpa using hname
              obtain ⟨c, hc⟩ := Option.isSome_iff_exists.1 hbody
              simp [hfn, hn, hc]
            unfold Oper.wp
            rw [hrun2, Oper.upon_enter]
            refine (hcalls w S β _ hR (by simp at hvl ⊢; omega) hrv).mono ?_
            rintro x w1 ⟨u, S1, β1, rfl, hE1, hR1, hv1⟩
            exact next u w1 S1 β1 hE1 hR1 hv1
          unfold opRunC at hrun
          split at hrun
          · rename_i f args ts hop
            split at hrun
            · rename_i fid vs hf hvs
              have hfv := rv_t (hA.2.2 f _ hf)
              have : a.eval f = .func (.func fid) #[] #[] := by
                generalize a.eval f = q at hfv
                cases hfv; rfl
              exact enter f args ts fid [] [] vs [] [] hop hvs this rfl rfl (fun i hi => by simp at hi) (fun i hi => by simp at hi) (by simpa using hrun)
            · rename_i fid fst cap vs hf hvs
              have hfv := hA.2.2 f _ hf
              generalize hq : a.eval f = q at hfv
              cases hfv with
              | fn _ _ _ us1 us2 hl1 hl2 h1 h2 =>
                exact enter f args ts fid fst cap vs us1 us2 hop hvs hq hl1 hl2 h1 h2 hrun
            · cases hrun
          · exact plain hrun
        · cases h
      · rename_i hw
        rw [wanted_ok hA hw, if_neg (by simp)]
        exact ih _ H lg e' H' lg' h hN w S β _ hR (hA.put hNo .dead) hQ
      · cases h

/-! ### What was told has a world -/

def Good (N : Nat) (e : Env) (H : Heap) : Prop := ∃ w S β a, Rel w S H β ∧ AgreeA N w S H β e a
end Go.Sim
