/- A part of the proof of a law of module cupola: SimN. It has no conditions of its own. -/
import Derived.Test.YtocehjbdnhmkfaaGreatSimK
set_option linter.all false
/-! Code and functions. -/
namespace Go.Sim

theorem dsts_ok {N : Nat} {ops : Array Oper} (h : dstsOk N ops = true) : ∀ o ∈ ops.toList, ∀ d, o.dst = some d → d < N := by
  intro o ho d hd
  have := List.all_eq_true.1 h o ho
  simpa [hd] using this

/-- In a region that draws, any order does. -/
def DrawFine (P : Program) (call : CallFn) (D : Array Oper → Bool) : Prop :=
  ∀ (N : Nat) (ops : Array Oper) (e : Env) (H : Heap) (e' : Env) (H' : Heap) (lg : Log) (t : Nat), Good N e H → (∀ o ∈ ops.toList, ∀ t, o.dst = some t → t < N) → D ops = true → opsRun P call ops ops.toList e H [] = some (e', H', lg) → lg.fine (loosePairs ops) = true →
    ∃ lg', opsRun P call ops ((Region.schedule true ops t).filterMap (fun i => ops[i]?)) e H [] = some (e', H', lg')

def toExit : X → Exit
  | .n => .normal
  | .exit id => .exit id
  | .ret => .ret

theorem least {J : Nat → Prop} (h : ∃ k, J k) : ∃ k, J k ∧ ∀ k', J k' → k ≤ k' := by
  obtain ⟨k, hk⟩ := h
  induction k using Nat.strongRecOn with
  | ind k ih =>
    by_cases h : ∃ k', k' < k ∧ J k'
    · obtain ⟨k', h1, h2⟩ := h; exact ih k' h1 h2
    · exact ⟨k, hk, fun k' hk' => Nat.le_of_not_lt fun hlt => h ⟨k', hlt, hk'⟩⟩

theorem Act.drawn {w : World} {S : Cells} {H : Heap} {β : Bl} {N : Nat} {e : Env} {a : Act} (n : Nat) (h : AgreeA N w S H β e a) : AgreeA N { w with drawn := n } S H β e a :=
  h.mono (fun _ _ h => ⟨h, rfl⟩) (Grow.refl _ _)

theorem code_ok {P : Program} {call : CallFn} {D : Array Oper → Bool} (hC : CallOk P call) (hD : DrawFine P call D) (hm : P.follows .mixedOrders = true) {N m : Nat} : ∀ (c : Code) (e : Env) (H : Heap) (x : X) (e' : Env) (H' : Heap),
    codeRun P call m c e H = some (x, e', H') → codeOk D N c = true → ∀ (Q : Exit → Act → World → Prop) (w : World) (S : Cells) (β : Bl) (a : Act), Rel w S H β → AgreeA N w S H β e a →
    (∀ a' w' S' β', Ext w S H β w' S' H' β' → Rel w' S' H' β' → AgreeA N w' S' H' β' e' a' → Q (toExit x) a' w') → c.wp P Q a w := by
  intro c
  induction c with
  | skip =>
    intro e H x e' H' h _ Q w S β a hR hA hQ
    simp [codeRun] at h; obtain ⟨rfl, rfl, rfl⟩ := h
    exact wp_skip (hQ a w S β (Ext.refl _ _ _ _) hR hA)
  | label l =>
    intro e H x e' H' h _ Q w S β a hR hA hQ
    simp [codeRun] at h; obtain ⟨rfl, rfl, rfl⟩ := h
    exact wp_label (hQ a w S β (Ext.refl _ _ _ _) hR hA)
  | exit id =>
    intro e H x e' H' h _ Q w S β a hR hA hQ
    simp [codeRun] at h; obtain ⟨rfl, rfl, rfl⟩ := h
    exact wp_exit (hQ a w S β (Ext.refl _ _ _ _) hR hA)
  | ret =>
    intro e H x e' H' h _ Q w S β a hR hA hQ
    simp [codeRun] at h; obtain ⟨rfl, rfl, rfl⟩ := h
    exact wp_ret (hQ a w S β (Ext.refl _ _ _ _) hR hA)
  | region id ops d =>
    intro e H x e' H' h hk Q w S β a hR hA hQ
    simp only [codeOk, Bool.and_eq_true] at hk
    cases d with
    | false =>
      simp only [codeRun, Option.map_eq_some_iff] at h
      obtain ⟨⟨e1, H1, lg⟩, h1, h2⟩ := h
      simp only [Prod.mk.injEq] at h2
      obtain ⟨rfl, rfl, rfl⟩ := h2
      refine wp_region ?_
      refine ops_ok hC (List.range ops.size) e H [] e1 H1 lg ?_ (dsts_ok hk.1) w S β a hR hA hQ
      rw [range_lists]; exact h1
    | true =>
      simp only [codeRun] at h
      split at h
      · rename_i e1 H1 lg h1
        split at h
        · rename_i hf
          simp only [Option.some.injEq, Prod.mk.injEq] at h
          obtain ⟨rfl, rfl, rfl⟩ := h
          refine wp_region_draw fun t => ?_
          rw [hm]
          have hDo : D ops = true := by simpa using hk.2
          obtain ⟨lg', h3⟩ := hD N ops e H e1 H1 lg t ⟨w, S, β, a, hR, hA⟩ (dsts_ok hk.1) hDo h1 hf
          have hR1 := hR.drawn (w.drawn + 1)
          refine ops_ok hC _ e H [] e1 H1 lg' h3 (dsts_ok hk.1) _ S β a hR1 (Act.drawn _ hA) ?_
          intro a' w' S' β' hE hR' hA'
          exact hQ a' w' S' β' ((Ext.drawn _).trans hE) hR' hA'
        · cases h
      · cases h
  | seq x y ihx ihy =>
    intro e H x' e' H' h hk Q w S β a hR hA hQ
    simp only [codeOk, Bool.and_eq_true] at hk
    simp only [codeRun] at h
    refine wp_seq ?_
    split at h
    · rename_i e1 H1 h1
      refine ihx e H .n e1 H1 h1 hk.1 _ w S β a hR hA ?_
      intro a1 w1 S1 β1 hE1 hR1 hA1
      exact ihy e1 H1 x' e' H' h hk.2 Q w1 S1 β1 a1 hR1 hA1 fun a' w' S' β' hE hR' hA' => hQ a' w' S' β' (hE1.trans hE) hR' hA'
    · rename_i hne
      refine ihx e H x' e' H' h hk.1 _ w S β a hR hA ?_
      intro a1 w1 S1 β1 hE1 hR1 hA1
      cases x' with
      | n => exact absurd h (hne _ _)
      | exit id => exact hQ a1 w1 S1 β1 hE1 hR1 hA1
      | ret => exact hQ a1 w1 S1 β1 hE1 hR1 hA1
  | cond c x y ihx ihy =>
    intro e H x' e' H' h hk Q w S β a hR hA hQ
    simp only [codeOk, Bool.and_eq_true] at hk
    simp only [codeRun] at h
    split at h
    · rename_i hc
      exact wp_cond_true (rv_bool (hA.2.2 c _ hc)) (ihx e H x' e' H' h hk.1 Q w S β a hR hA hQ)
    · rename_i hc
      exact wp_cond_false (rv_bool (hA.2.2 c _ hc)) (ihy e H x' e' H' h hk.2 Q w S β a hR hA hQ)
    · cases h
  | block id b ih =>
    intro e H x' e' H' h hk Q w S β a hR hA hQ
    simp only [codeRun] at h
    refine wp_block ?_
    split at h
    · rename_i id' e1 H1 h1
      refine ih e H (.exit id') e1 H1 h1 hk _ w S β a hR hA ?_
      intro a1 w1 S1 β1 hE1 hR1 hA1
      show if id' = id then Q .normal a1 w1 else Q (.exit id') a1 w1
      split at h
      · rename_i hid
        simp only [Option.some.injEq, Prod.mk.injEq] at h
        obtain ⟨rfl, rfl, rfl⟩ := h
        rw [if_pos hid]; exact hQ a1 w1 S1 β1 hE1 hR1 hA1
      · rename_i hid
        simp only [Option.some.injEq, Prod.mk.injEq] at h
        obtain ⟨rfl, rfl, rfl⟩ := h
        rw [if_neg hid]; exact hQ a1 w1 S1 β1 hE1 hR1 hA1
    · rename_i hne
      refine ih e H x' e' H' h hk _ w S β a hR hA ?_
      intro a1 w1 S1 β1 hE1 hR1 hA1
      cases x' with
      | n => exact hQ a1 w1 S1 β1 hE1 hR1 hA1
      | exit id => exact absurd h (hne _ _ _)
      | ret => exact hQ a1 w1 S1 β1 hE1 hR1 hA1
  | loop b ih =>
    intro e H x' e' H' h hk Q w S β a hR hA hQ
    simp only [codeRun] at h
    let J : Act → World → Nat → Prop := fun a1 w1 k => ∃ e1 H1 S1 β1, iter (codeRun P call m b) k e1 H1 = some (x', e', H') ∧ Ext w S H β w1 S1 H1 β1 ∧ Rel w1 S1 H1 β1 ∧ AgreeA N w1 S1 H1 β1 e1 a1
    classical
    refine wp_loop (fun a1 w1 => ∃ k, J a1 w1 k) (fun a1 w1 => if hh : ∃ k, J a1 w1 k then (least hh).choose else 0) ⟨m, e, H, S, β, h, Ext.refl _ _ _ _, hR, hA⟩ ?_
    intro a1 w1 hJ
    obtain ⟨hk1, hk2⟩ := (least hJ).choose_spec
    have hμ : (if hh : ∃ k, J a1 w1 k then (least hh).choose else 0) = (least hJ).choose := by rw [dif_pos hJ]
    generalize (least hJ).choose = k at hk1 hk2 hμ
    obtain ⟨e1, H1, S1, β1, hit, hE1, hR1, hA1⟩ := hk1
    cases k with
    | zero => simp [iter] at hit
    | succ k =>
      simp only [iter] at hit
      split at hit
      · rename_i e2 H2 h2
        refine ih e1 H1 .n e2 H2 h2 hk _ w1 S1 β1 a1 hR1 hA1 ?_
        intro a2 w2 S2 β2 hE2 hR2 hA2
        have hJ2 : J a2 w2 k := ⟨e2, H2, S2, β2, hit, hE1.trans hE2, hR2, hA2⟩
        refine ⟨⟨k, hJ2⟩, ?_⟩
        rw [hμ]
        have hJ3 : ∃ k, J a2 w2 k := ⟨k, hJ2⟩
        rw [dif_pos hJ3]
        have := (least hJ3).choose_spec.2 k hJ2
        omega
      · rename_i hne
        refine ih e1 H1 x' e' H' hit hk _ w1 S1 β1 a1 hR1 hA1 ?_
        intro a2 w2 S2 β2 hE2 hR2 hA2
        cases x' with
        | n => exact absurd hit (hne _ _)
        | exit id => exact hQ a2 w2 S2 β2 (hE1.trans hE2) hR2 hA2
        | ret => exact hQ a2 w2 S2 β2 (hE1.trans hE2) hR2 hA2
  | _ =>
    intro e H x e' H' h
    simp [codeRun] at h

/-! ### Functions -/

theorem load_run {P : Program} {w : World} {S : Cells} {H : Heap} {β : Bl} (hR : Rel w S H β) {t : TypeId} {v : V} {q : Value} {r : Res} (hv : RV w S H β v q) (h : loadV H (tyOf P t) v = some r) :
    ∃ ad u, q = .pointer (some ad) ∧ (loadVar t ad).run P w = .ok u w ∧ RV w S H β r.v u := by
  unfold loadV at h
  split at h
  · rename_i a sz id n i off hty
    cases hc : cur H id n with
    | none => simp [hc] at h
    | some o =>
      simp only [hc, Option.bind_some] at h
      cases hi : o.el[i]? with
      | none => simp [hi] at h
      | some y =>
        simp only [hi, Option.bind_some] at h
        cases hr : rdV y o.esz off a sz with
        | none => simp [hr] at h
        | some u =>
          simp [hr] at h; subst h
          obtain ⟨h1, h2⟩ := cur_at hc
          cases hv with
          | ptr _ _ _ _ _ hok =>
            obtain ⟨_, o', ho', _, hb⟩ := hok
            rw [h1] at ho'; cases ho'
            obtain ⟨b, cap, hβ, hu⟩ := hb h2
            obtain ⟨cs, Ty, hh, hsz, hcells⟩ := (hR.obj id o b cap h1 hβ).row
            have hil : i < o.el.length := by
              rcases Nat.lt_or_ge i o.el.length with h' | h'
              · exact h'
              · rw [List.getElem?_eq_none h'] at hi; cases hi
            rw [List.getElem?_eq_getElem hil] at hi; cases hi
            obtain ⟨hl, hcs⟩ := hcells i hil
            obtain ⟨x', h3, h4⟩ := load_at (P := P) (w := w) (b := b) (o := i * o.esz) hty hl (fun j hj => by
              obtain ⟨q, hq1, hq2⟩ := hcs j hj
              exact ⟨q, by rw [cell_of_heap hh]; exact hq1, hq2⟩) hr
            exact ⟨_, x', hu, h3, h4⟩
  · rename_i a sz xs i off hty
    cases hi : xs[i]? with
    | none => simp [hi] at h
    | some y =>
      simp only [hi, Option.bind_some] at h
      cases hr : rdV (.t y) y.cells.length off a sz with
      | none => simp [hr] at h
      | some u =>
        simp [hr] at h; subst h
        cases hv with
        | tp _ _ _ b o esz hil harr =>
          rw [List.getElem?_eq_getElem hil] at hi; cases hi
          have hrow := RowAt.of_arr (H := H) (β := β) harr
          have hil' : i < (xs.map V.t).length := by simpa using hil
          have e1 : (xs.map V.t)[i] = V.t xs[i] := List.getElem_map _
          obtain ⟨x', h3, h4⟩ := load_at (P := P) (w := w) (S := S) (H := H) (β := β) (b := b) (o := o + i * esz) hty (v := V.t xs[i]) (by rw [Tcells]; simp) (fun j hj => by
            have := hrow.cell i hil' j (by rw [e1]; exact hj)
            simpa only [e1] using this) hr
          exact ⟨_, x', rfl, h3, h4⟩
  · cases h

theorem res_ok {P : Program} {N : Nat} {w : World} {S : Cells} {H : Heap} {β : Bl} {e : Env} {a : Act} (hR : Rel w S H β) (hA : AgreeA N w S H β e a) (F : ResultVar → Sem Value)
    (hF1 : ∀ t, F (.tmp t) = pure (a.tmps.getD t undef)) (hF2 : ∀ c t, F (.cell c t) = (do loadVar t (← asAddr (a.tmps.getD c undef)))) : ∀ (rs : List ResultVar) (vs : List V), resVs P e H rs = some vs →
    ∃ us : List Value, (rs.mapM F).run P w = Result.ok us w ∧ vs.length = us.length ∧ ∀ i (hi : i < vs.length) (hu : i < us.length), RV w S H β vs[i] us[i] := by
  intro rs
  induction rs with
  | nil =>
    intro vs h
    simp only [resVs, Option.some.injEq] at h; subst h
    exact ⟨[], by simp, rfl, fun i hi => by simp at hi⟩
  | cons r rs ih =>
    intro vs h
    simp only [resVs] at h
    cases hr : resV P e H r with
    | none => simp [hr] at h
    | some v =>
      cases hrs : resVs P e H rs with
      | none => simp [hr, hrs] at h
      | some vs' =>
        simp [hr, hrs] at h; subst h
        obtain ⟨us, h1, h2, h3⟩ := ih vs' hrs
        have one : ∃ u, (F r).run P w = Result.ok u w ∧ RV w S H β v u := by
          cases r with
          | tmp t =>
            simp only [resV, Option.some.injEq] at hr; subst hr
            exact ⟨_, by rw [hF1]; rfl, hA.2.2 (.tmp t) _ rfl⟩
          | cell c t =>
            simp only [resV, Option.map_eq_some_iff] at hr
            obtain ⟨r, hr, rfl⟩ := hr
            obtain ⟨ad, u, h4, h5, h6⟩ := load_run hR (hA.2.2 (.tmp c) _ rfl) hr
            simp only [Act.eval] at h4
            refine ⟨u, ?_, h6⟩
            rw [hF2, h4]
            simp [asAddr, h5]
        obtain ⟨u, h4, h5⟩ := one
        refine ⟨u :: us, ?_, by simp [h2], fun i hi hu => ?_⟩
        · rw [List.mapM_cons]
          simp only [Sem.run_bind, h4, Result.andThen_ok, h1, Sem.run_pure]
        · cases i with
          | zero => exact h5
          | succ i => exact h3 i (by simpa using hi) (by simpa using hu)

def resF (tmps : Array Value) : ResultVar → Sem Value
  | .tmp t => pure (tmps.getD t undef)
  | .cell c t => do loadVar t (← asAddr (tmps.getD c undef))

theorem results_eq (fn : Func) (tmps : Array Value) : results fn tmps = (do
    let vs ← fn.results.mapM (resF tmps)
    pure (if h : vs.size = 1 then vs[0] else .tuple vs)) := by
  unfold results
  congr 2

theorem fun_ok {P : Program} (hD : ∀ call, CallOk P call → DrawFine P call drawOk) (hm : P.follows .mixedOrders = true) : ∀ k, CallOk P (funRun P k) := by
  intro k
  induction k with
  | zero => intro f args H v H' h; simp [funRun] at h
  | succ k ih =>
    intro f args H v H' h
    simp only [funRun] at h
    cases hfn : P.funcs[f]? with
    | none => simp [hfn] at h
    | some fn =>
      simp only [hfn] at h
      split at h
      rotate_left
      · cases h
      rename_i hfo
      cases hb : fn.body with
      | none => simp [hb] at h
      | some c =>
        simp only [hb] at h
        simp only [fnOk, hb, Bool.and_eq_true, Bool.not_eq_true'] at hfo
        refine ⟨⟨fn, rfl, by simp [hb], hfo.2⟩, fun w S β us hR hl hv => ?_⟩
        refine calls_of_wp hfn hb ?_
        have hA : AgreeA fn.ntmps w S H β (enter args) { tmps := us.toArray ++ Array.replicate (fn.ntmps - us.toArray.size) undef, defers := [] } := by
          have hsz : fn.ntmps ≤ (us.toArray ++ Array.replicate (fn.ntmps - us.toArray.size) undef).size := by
            rw [Array.size_append, Array.size_replicate]
            generalize us.toArray.size = z
            generalize fn.ntmps = y
            omega
          refine ⟨rfl, hsz, fun x y hx => ?_⟩
          cases x with
          | tmp t =>
            simp only [ev, enter, Option.some.injEq] at hx
            by_cases ht : t < args.length
            · have ht' : t < us.length := by rw [← hl]; exact ht
              rw [List.getElem?_eq_getElem ht] at hx
              simp only [Option.getD_some] at hx; subst hx
              have e1 : (us.toArray ++ Array.replicate (fn.ntmps - us.toArray.size) undef).getD t undef = us[t] := by
                rw [Array.getD_eq_getD_getElem?, Array.getElem?_append_left (by simpa using ht')]
                simp [ht']
              simp only [Act.eval, e1]
              exact hv t ht ht'
            · rw [List.getElem?_eq_none (Nat.le_of_not_lt ht)] at hx
              simp only [Option.getD_none] at hx; subst hx
              have e1 : (us.toArray ++ Array.replicate (fn.ntmps - us.toArray.size) undef).getD t undef = undef := by
                rw [Array.getD_eq_getD_getElem?, Array.getElem?_append_right (by rw [List.size_toArray, ← hl]; exact Nat.le_of_not_lt ht)]
                rw [Array.getElem?_replicate]
                split <;> rfl
              simp only [Act.eval, e1]
              exact .dead
          | const c =>
            exact ofVal_rv hx
          | func f =>
            simp only [ev, Option.some.injEq] at hx; subst hx
            exact .t _ _ (.fn f)
          | global g => simp [ev] at hx
        have fin : ∀ (e' : Env) (H1 : Heap) (vs : List V), resVs P e' H1 fn.results.toList = some vs → v = one vs → H1 = H' → ∀ a' w' S' β', Ext w S H β w' S' H1 β' → Rel w' S' H1 β' → AgreeA fn.ntmps w' S' H1 β' e' a' →
            a'.defers = [] ∧ ∃ u, (results fn a'.tmps).run P w' = .ok u w' ∧ Back w S H β v H' (.returned u) w' := by
          intro e' H1 vs hvs hv1 hH a' w' S' β' hE hR' hA'
          subst hH
          have hres : ∃ us' : List Value, (results fn a'.tmps).run P w' = .ok (if h : us'.toArray.size = 1 then us'.toArray[0] else .tuple us'.toArray) w' ∧ vs.length = us'.length ∧ ∀ i (hi : i < vs.length) (hu : i < us'.length), RV w' S' H1 β' vs[i] us'[i] := by
            obtain ⟨us', h1, h2, h3⟩ := res_ok (P := P) hR' hA' (resF a'.tmps) (fun _ => rfl) (fun _ _ => rfl) fn.results.toList vs hvs
            refine ⟨us', ?_, h2, h3⟩
            rw [results_eq, Sem.run_bind, Array.mapM_eq_mapM_toList, map_eq_pure_bind, Sem.run_bind, h1]
            rfl
          obtain ⟨us', hres, h2, h3⟩ := hres
          refine ⟨hA'.1, _, hres, _, S', β', rfl, hE, hR', ?_⟩
          subst hv1
          match vs, us', h2, h3 with
          | [], [], _, _ => exact .tup [] [] rfl fun i hi => by simp at hi
          | [v], [u], _, h3 => exact h3 0 (by simp) (by simp)
          | v :: v2 :: vs, u :: u2 :: us, h2, h3 => 
            rw [dif_neg (by simp)]
            exact .tup _ _ h2 h3
        split at h
        · rename_i e' H1 hrun
          simp only [Option.map_eq_some_iff, Prod.mk.injEq] at h
          obtain ⟨vs, hvs, hv1, hH⟩ := h
          refine code_ok ih (hD _ ih) hm c _ H .n e' H1 hrun hfo.1 _ w S β _ hR hA ?_
          intro a' w' S' β' hE hR' hA'
          obtain ⟨h1, u, h2, h3⟩ := fin e' H1 vs hvs hv1.symm hH a' w' S' β' hE hR' hA'
          exact ⟨h1, u, h2, h3⟩
        · rename_i e' H1 hrun
          simp only [Option.map_eq_some_iff, Prod.mk.injEq] at h
          obtain ⟨vs, hvs, hv1, hH⟩ := h
          refine code_ok ih (hD _ ih) hm c _ H .ret e' H1 hrun hfo.1 _ w S β _ hR hA ?_
          intro a' w' S' β' hE hR' hA'
          obtain ⟨h1, u, h2, h3⟩ := fin e' H1 vs hvs hv1.symm hH a' w' S' β' hE hR' hA'
          exact ⟨h1, u, h2, h3⟩
        · cases h
end Go.Sim
