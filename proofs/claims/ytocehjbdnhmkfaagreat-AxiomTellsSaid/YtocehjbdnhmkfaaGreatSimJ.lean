/- A part of the proof of a law of module cupola: SimJ. It has no conditions of its own. -/
import Derived.Test.YtocehjbdnhmkfaaGreatSimI
set_option linter.all false
/-! Calls. -/
namespace Go.Sim
section
variable {P : Program} {w : World} {S : Cells} {H : Heap} {β : Bl} {e : Env} {ρ : Operand → Value} {r : Res} {dst : Option Tmp} {ty : TypeId} {pos : String} {af : Array Edge} {g : Option (Nat × Bool)}

/-- An operation that calls nobody. -/
theorem d_op (hR : Rel w S H β) (hA : Agree w S H β e ρ) {op : Op} (h : opRun P op e H = some r) : Does P w S H β ρ ⟨dst, op, ty, pos, af, g⟩ r := by
  cases op with
  | move x => exact d_move hR hA h
  | assign x => exact d_assign hR hA h
  | pick c a b => exact d_pick hR hA h
  | alloc t => exact d_alloc hR h
  | box t x => exact d_box hR hA h
  | build t p => exact d_build hR hA h
  | buildSlice t n p => exact d_buildSlice hR hA h
  | load t x => exact d_load hR hA h
  | store t x y => exact d_store hR hA h
  | nilCheck x => exact d_nilCheck hR hA h
  | binOp op t x y s => exact d_binOp hR hA h
  | unOp op t x => exact d_unOp hR hA h
  | convert s d x => exact d_convert hR hA h
  | makeFunc f a b => cases f <;> first | exact d_makeFunc hR hA h | simp [opRun] at h
  | makeSlice t l c => exact d_makeSlice hR hA h
  | slice t x lo hi mx => exact d_slice hR hA h
  | fieldAddr s x f => exact d_fieldAddr hR hA h
  | indexAddr t x i => exact d_indexAddr hR hA h
  | index t x i => exact d_index hR hA h
  | extract x i => exact d_extract hR hA h
  | call c =>
    obtain ⟨callee, as, ts⟩ := c
    cases callee <;> first | exact d_builtin hR hA h | simp [opRun] at h
  | _ => simp [opRun] at h
end

/-- What a call that was told of does. -/
def Back (w : World) (S : Cells) (H : Heap) (β : Bl) (v : V) (H' : Heap) (x : Ending) (w' : World) : Prop :=
  ∃ u S' β', x = .returned u ∧ Ext w S H β w' S' H' β' ∧ Rel w' S' H' β' ∧ RV w' S' H' β' v u

def CallOk (P : Program) (call : CallFn) : Prop := ∀ f args H v H', call f args H = some (v, H') →
  (∃ fn, P.funcs[f]? = some fn ∧ fn.body.isSome = true ∧ (fn.name == "runtime.NumGoroutine") = false) ∧
  ∀ (w : World) (S : Cells) (β : Bl) (us : List Value), Rel w S H β → args.length = us.length → (∀ i (hi : i < args.length) (hu : i < us.length), RV w S H β args[i] us[i]) →
    Calls P f us.toArray w (Back w S H β v H')

theorem Rel.none {w : World} {S : Cells} (hlt : ∀ b j, S b j → b < w.heap.size) : Rel w S [] [] :=
  ⟨rfl, fun i j b c c' h => by simp at h, hlt, fun id o b cap h => by simp at h⟩

theorem noSl_rt {w w' : World} {S S' : Cells} {H H' : Heap} {β β' : Bl} {v : V} {u : Value} (hn : noSl v = true) (h : RV w S H β v u) : RV w' S' H' β' v u := by
  have base : ∀ (x : T) (u : Value), (match x with | .int .. | .bool _ | .str _ | .nilp | .nilf | .nili => true | _ => false) = true → RT w S x u → RT w' S' x u := by
    intro x u hx h
    cases x <;> simp at hx <;> cases h <;> constructor
  cases v with
  | t x => exact .t _ _ (base x u hn (rv_t h))
  | tup vs =>
    cases h with
    | tup _ us hl h =>
      refine .tup vs us hl fun i hi hu => ?_
      have h1 := h i hi hu
      have h2 : (match vs[i] with | .t x => (match x with | .int .. | .bool _ | .str _ | .nilp | .nilf | .nili => true | _ => false) | _ => false) = true := by
        have := List.all_eq_true.1 hn _ (List.getElem_mem hi)
        exact this
      generalize vs[i] = y at h1 h2
      cases y with
      | t x => exact .t _ _ (base x _ h2 (rv_t h1))
      | _ => simp at h2
  | _ => simp [noSl] at hn

theorem toT_cells {w : World} {S : Cells} {H : Heap} {β : Bl} (hR : Rel w S H β) (d : Nat) (y : V) (z : T) (ht : toT H d y = some z) (ha : AllSt H d y) :
    z.cells.length = y.cells.length ∧ ∀ j (hj : j < z.cells.length) (hy : j < y.cells.length) (u : Value), RV w S H β y.cells[j] u → RT w S z.cells[j] u := by
  have single : ∀ (hz : z.cells = [z]) (hy : y.cells = [y]), z.cells.length = y.cells.length ∧ ∀ j (hj : j < z.cells.length) (hy : j < y.cells.length) (u : Value), RV w S H β y.cells[j] u → RT w S z.cells[j] u := by
    intro hz hy
    refine ⟨by rw [hz, hy]; rfl, fun j hj hjy u hr => ?_⟩
    have e : j = 0 := by rw [hz] at hj; simp at hj; omega
    subst e
    simp only [hz, List.getElem_cons_zero]
    simp only [hy, List.getElem_cons_zero] at hr
    exact toT_rt hR d y z u ht ha hr
  cases y with
  | t q =>
    have : z = q := by cases d <;> simp [toT] at ht <;> exact ht.symm
    subst this
    refine ⟨by rw [Tcells]; simp, fun j hj hjy u hr => ?_⟩
    have e : (V.t z).cells[j] = V.t (z.cells[j]) := by simp only [Tcells, List.getElem_map]
    rw [e] at hr
    exact rv_t hr
  | ex q =>
    have : z = .sl q := by cases d <;> simp [toT] at ht <;> exact ht.symm
    subst this
    exact single rfl rfl
  | ref a b =>
    refine single ?_ rfl
    cases d with
    | zero => simp [toT] at ht
    | succ d' =>
      simp only [toT] at ht
      cases hcc : cur H a b with
      | none => simp [hcc] at ht
      | some oo =>
        simp only [hcc] at ht
        cases hmm : oo.el.mapM (toT H d') with
        | none => simp [hmm] at ht
        | some q => simp [hmm] at ht; subst ht; rfl
  | agg cs' =>
    cases d with
    | zero => simp [toT] at ht
    | succ d' =>
      simp only [toT] at ht
      cases hmm : cs'.mapM (toT H d') with
      | none => simp [hmm] at ht
      | some q =>
        simp [hmm] at ht; subst ht
        obtain ⟨hl', hq⟩ := mapM_some hmm
        refine ⟨by simp [V.cells, T.cells, hl'], fun j hj hjy u hr => ?_⟩
        simp only [V.cells, T.cells] at hjy hj hr ⊢
        exact toT_rt hR d' _ _ _ (hq j hjy hj) (ha _ (List.getElem_mem hjy)) hr
  | _ => cases d <;> simp [toT] at ht

/-- What a function that has seen no heap has made, taken up by the one that called. -/
theorem import_rel {w w' : World} {S S1 : Cells} {H H1 : Heap} {β β1 : Bl} (hR : Rel w S H β) (hE1 : Ext w S [] [] w' S1 H1 β1) (hR1 : Rel w' S1 H1 β1) {v u : V} {x : Value} (hv : RV w' S1 H1 β1 v x) (hx : exportV H1 v = some u) :
    ∃ S' β', Ext w S H β w' S' (importV H u).2 β' ∧ Rel w' S' (importV H u).2 β' ∧ RV w' S' (importV H u).2 β' (importV H u).1 x := by
  -- the old rows, with what is stable now
  have old : ∀ (S2 : Cells) (H2 : Heap), Ext w' S1 H1 β1 w' S2 H2 β1 → Rel w' S2 H2 β1 → Ext w S H β w' S2 H β ∧ Rel w' S2 H β := by
    intro S2 H2 hE2 hR2
    have hE := hE1.trans hE2
    refine ⟨⟨hE.os, hE.tape, hE.output, hE.size, fun b hb _ => hE.keep b hb (by simp), hE.stay, fun b j h => ?_, Grow.refl _ _, fun id _ c h => .inl ⟨id, c, h⟩⟩, ⟨hR.len, hR.inj, hR2.lt, ?_⟩⟩
    · rcases hE.new b j h with h | h | ⟨id, c, h⟩
      · exact .inl h
      · exact .inr (.inl h)
      · simp at h
    · intro id o b cap ho hb
      have hlt := hR.block hb
      refine (hR.obj id o b cap ho hb).mono hE.stay (Grow.refl _ _) (hE.keep b hlt (by simp)) (fun j => ⟨fun h => ?_, fun h => (hE.stay b j h).1⟩)
      rcases hE.new b j h with h | h | ⟨id, c, h⟩
      · exact h
      · omega
      · simp at h
  have data : ∀ (y : V) (x : Value), RV w' S1 H1 β1 y x → ∀ z, toT H1 depth y = some z → ∃ S2, Ext w' S1 H1 β1 w' S2 (hold depth H1 y) β1 ∧ Rel w' S2 (hold depth H1 y) β1 ∧ RT w' S2 z x := by
    intro y x hy z hz
    obtain ⟨S2, h1, h2, h3⟩ := hR1.hold y x hy
    exact ⟨S2, h1, h2, h3 z hz⟩
  have rest : ∀ z, toT H1 depth v = some z → u = .t z → ∃ S' β', Ext w S H β w' S' (importV H u).2 β' ∧ Rel w' S' (importV H u).2 β' ∧ RV w' S' (importV H u).2 β' (importV H u).1 x := by
    intro z hz hu
    subst hu
    obtain ⟨S2, h1, h2, h3⟩ := data v x hv z hz
    obtain ⟨h4, h5⟩ := old S2 _ h1 h2
    exact ⟨S2, β, h4, h5, .t _ _ h3⟩
  cases v with
  | ref id n =>
    simp only [exportV] at hx
    cases hc : cur H1 id n with
    | none => simp [hc] at hx
    | some o =>
      simp only [hc] at hx
      split at hx
      · rename_i hfl
        cases hm : o.el.mapM (toT H1 depth) with
        | none => simp [hm] at hx
        | some xs =>
          simp [hm] at hx; subst hx
          obtain ⟨ho, rfl⟩ := cur_at hc
          cases hv with
          | ref _ _ _ hok =>
            obtain ⟨_, o', ho', _, hb⟩ := hok
            rw [ho] at ho'; cases ho'
            obtain ⟨b, cap, hβ, rfl, hcap⟩ := hb rfl
            have hraise := fold_raise depth o.el H1
            obtain ⟨S2, hE2, hR2⟩ := hR1.raise hraise
            obtain ⟨hE, hR'⟩ := old S2 _ hE2 hR2
            obtain ⟨o2, ho2, hel2, hz2, _⟩ := hraise.2 id o ho
            have hst2 : o2.st = o.st := by rw [ho2] at hfl; simpa using hfl
            obtain ⟨hlen, hel⟩ := mapM_some hm
            have hO := hR2.obj id o2 b cap ho2 hβ
            have hsz : w.heap.size ≤ b := by
              rcases hE1.own id b cap hβ with ⟨i, c, h⟩ | h
              · simp at h
              · exact h
            have hg : Grow H β (H ++ [⟨xs.map .t, o.esz, o.st⟩]) (β ++ [(b, cap)]) := Grow.push hR.len _ _
            have hβn : ∀ (i b' c' : Nat), (β ++ [(b, cap)])[i]? = some (b', c') → (β[i]? = some (b', c') ∧ i < β.length) ∨ (i = β.length ∧ b' = b ∧ c' = cap) := by
              intro i b' c' h
              rcases Nat.lt_trichotomy i β.length with hlt | heq | hgt
              · rw [List.getElem?_append_left hlt] at h; exact .inl ⟨h, hlt⟩
              · subst heq; simp at h; exact .inr ⟨rfl, h.1.symm, h.2.symm⟩
              · rw [List.getElem?_eq_none (by simp; omega)] at h; cases h
            refine ⟨S2, β ++ [(b, cap)], ⟨hE.os, hE.tape, hE.output, hE.size, hE.keep, hE.stay, hE.new, hg, ?_⟩, ⟨by simp [importV, hR.len], ?_, hR2.lt, ?_⟩, ?_⟩
            · intro i b' c' h
              rcases hβn i b' c' h with ⟨h, _⟩ | ⟨_, rfl, _⟩
              · exact .inl ⟨i, c', h⟩
              · exact .inr hsz
            · intro i j b' c' c'' h1 h2
              rcases hβn i b' c' h1 with ⟨h3, _⟩ | ⟨e1, hb1, _⟩ <;> rcases hβn j b' c'' h2 with ⟨h4, _⟩ | ⟨e2, hb2, _⟩
              · exact hR.inj i j b' c' c'' h3 h4
              · have := hR.block h3; omega
              · have := hR.block h4; omega
              · rw [e1, e2]
            · intro i oi b' c' hoi hbi
              rcases hβn i b' c' hbi with ⟨h3, hlt⟩ | ⟨rfl, rfl, rfl⟩
              · have hoi' : H[i]? = some oi := by
                  rw [← hoi]; exact (List.getElem?_append_left (by rw [← hR.len]; exact hlt)).symm
                exact (hR'.obj i oi b' c' hoi' h3).mono (Stay.refl _ _) hg rfl (fun _ => Iff.rfl)
              · have hoi' : oi = ⟨xs.map .t, o.esz, o.st⟩ := by
                  have : (H ++ [(⟨xs.map .t, o.esz, o.st⟩ : Obj)])[β.length]? = some ⟨xs.map .t, o.esz, o.st⟩ := by rw [hR.len]; simp
                  have h := hoi
                  rw [show (importV H (V.fr o.esz o.st xs)).2 = H ++ [(⟨xs.map .t, o.esz, o.st⟩ : Obj)] from rfl, this] at h
                  exact (Option.some.inj h).symm
                subst hoi'
                obtain ⟨cs, Ty, hcs, hcsz, hcells⟩ := hO.row
                refine ⟨by rw [← hz2]; exact hO.pos, by simp; omega, fun j => ?_, cs, Ty, hcs, by rw [← hz2]; exact hcsz, fun k hk => ?_⟩
                · have := hO.st j
                  rw [hst2, hel2, hz2] at this
                  simpa [← hlen] using this
                · have hk1 : k < xs.length := by simpa using hk
                  have hk2 : k < o2.el.length := by rw [hel2]; omega
                  have hk3 : k < o.el.length := by omega
                  obtain ⟨h5, h6⟩ := hcells k hk2
                  have e2 : o2.el[k] = o.el[k] := by simp only [hel2]
                  simp only [e2] at h5 h6
                  obtain ⟨h7, h8⟩ := toT_cells hR2 depth o.el[k] xs[k] (toT_raise hraise depth _ _ (hel k hk3 hk1)) (fold_all depth o.el H1 _ (List.getElem_mem hk3))
                  simp only [List.getElem_map, Tcells, List.length_map]
                  refine ⟨by rw [h7, h5, hz2], fun j hj => ?_⟩
                  obtain ⟨q, h9, h10⟩ := h6 j (by rw [← h7]; exact hj)
                  rw [hz2] at h9
                  exact ⟨q, h9, .t _ _ (h8 j hj (by rw [← h7]; exact hj) q h10)⟩
            · refine .ref _ _ _ ⟨⟨_, _, by rw [hlen]⟩, ⟨xs.map .t, o.esz, o.st⟩, by simp [importV], by simp, fun _ => ⟨b, cap, ?_, by rw [hlen], by omega⟩⟩
              rw [← hR.len]; simp
      · cases hx
  | ex xs =>
    simp only [exportV, Option.some.injEq] at hx; subst hx
    obtain ⟨h4, h5⟩ := old S1 H1 (Ext.refl _ _ _ _) hR1
    cases hv with
    | ex _ A n h => exact ⟨S1, β, h4, h5, .ex _ _ _ h⟩
  | tup vs =>
    simp only [exportV] at hx
    cases hm : vs.mapM (exp1 H1) with
    | none => simp [hm] at hx
    | some us =>
      simp [hm] at hx; subst hx
      obtain ⟨hlen, hel⟩ := mapM_some hm
      have hraise := fold_raise depth vs H1
      obtain ⟨S2, hE2, hR2⟩ := hR1.raise hraise
      obtain ⟨hE, hR'⟩ := old S2 _ hE2 hR2
      cases hv with
      | tup _ xs hl h =>
        refine ⟨S2, β, hE, hR', .tup _ _ (by omega) fun i hi hu => ?_⟩
        have hi' : i < vs.length := by omega
        have h1 := hel i hi' hi
        have h2 := (h i hi' hu).mono hE2.stay hE2.grow
        have h3 := fold_all depth vs H1 _ (List.getElem_mem hi')
        generalize vs[i] = y at h1 h2 h3
        generalize us[i] = z at h1
        show RV w' S2 H β z xs[i]
        generalize xs[i] = q at h2
        have dat : ∀ t, toT H1 depth y = some t → z = .t t → RV w' S2 H β z q := by
          intro t ht hz
          subst hz
          exact .t _ _ (toT_rt hR2 depth y t _ (toT_raise hraise depth y t ht) h3 h2)
        cases y with
        | ex l =>
          simp only [exp1, Option.some.injEq] at h1; subst h1
          cases h2 with
          | ex _ A n h => exact .ex _ _ _ h
        | _ =>
          simp only [exp1, Option.map_eq_some_iff] at h1
          obtain ⟨t, ht, hz⟩ := h1
          exact dat t ht hz.symm
  | _ =>
    simp only [exportV, Option.map_eq_some_iff] at hx
    obtain ⟨z, hz, hu⟩ := hx
    exact rest z hz hu.symm

theorem import_data {w w' : World} {S S1 : Cells} {H H1 : Heap} {β β1 : Bl} (hR : Rel w S H β) (hE1 : Ext w S [] [] w' S1 H1 β1) (hR1 : Rel w' S1 H1 β1) {v u : V} {x : Value} (hv : RV w' S1 H1 β1 v x) (hx : exportD H1 v = some u) :
    ∃ S' β', Ext w S H β w' S' (importV H u).2 β' ∧ Rel w' S' (importV H u).2 β' ∧ RV w' S' (importV H u).2 β' (importV H u).1 x := by
  have old : ∀ (S2 : Cells) (H2 : Heap), Ext w' S1 H1 β1 w' S2 H2 β1 → Rel w' S2 H2 β1 → Ext w S H β w' S2 H β ∧ Rel w' S2 H β := by
    intro S2 H2 hE2 hR2
    have hE := hE1.trans hE2
    refine ⟨⟨hE.os, hE.tape, hE.output, hE.size, fun b hb _ => hE.keep b hb (by simp), hE.stay, fun b j h => ?_, Grow.refl _ _, fun id _ c h => .inl ⟨id, c, h⟩⟩, ⟨hR.len, hR.inj, hR2.lt, ?_⟩⟩
    · rcases hE.new b j h with h | h | ⟨id, c, h⟩
      · exact .inl h
      · exact .inr (.inl h)
      · simp at h
    · intro id o b cap ho hb
      have hlt := hR.block hb
      refine (hR.obj id o b cap ho hb).mono hE.stay (Grow.refl _ _) (hE.keep b hlt (by simp)) (fun j => ⟨fun h => ?_, fun h => (hE.stay b j h).1⟩)
      rcases hE.new b j h with h | h | ⟨id, c, h⟩
      · exact h
      · omega
      · simp at h
  have rest : ∀ z, toT H1 depth v = some z → u = .t z → ∃ S' β', Ext w S H β w' S' (importV H u).2 β' ∧ Rel w' S' (importV H u).2 β' ∧ RV w' S' (importV H u).2 β' (importV H u).1 x := by
    intro z hz hu
    subst hu
    obtain ⟨S2, h1, h2, h3⟩ := hR1.hold v x hv
    obtain ⟨h4, h5⟩ := old S2 _ h1 h2
    exact ⟨S2, β, h4, h5, .t _ _ (h3 z hz)⟩
  cases v with
  | tup vs =>
    simp only [exportD, Option.map_eq_some_iff] at hx
    obtain ⟨ts, hm, rfl⟩ := hx
    obtain ⟨hlen, hel⟩ := mapM_some hm
    have hraise := fold_raise depth vs H1
    obtain ⟨S2, hE2, hR2⟩ := hR1.raise hraise
    obtain ⟨hE, hR'⟩ := old S2 _ hE2 hR2
    cases hv with
    | tup _ xs hl h =>
      refine ⟨S2, β, hE, hR', .tup _ _ (by simp; omega) fun i hi hu => ?_⟩
      have hi' : i < vs.length := by simp at hi; omega
      have hi2 : i < ts.length := by simpa using hi
      rw [List.getElem_map]
      exact .t _ _ (toT_rt hR2 depth vs[i] ts[i] _ (toT_raise hraise depth _ _ (hel i hi' hi2)) (fold_all depth vs H1 _ (List.getElem_mem hi')) ((h i hi' hu).mono hE2.stay hE2.grow))
  | _ =>
    simp only [exportD, Option.map_eq_some_iff] at hx
    obtain ⟨z, hz, hu⟩ := hx
    exact rest z hz hu.symm

theorem import_any {w w' : World} {S S1 : Cells} {H H1 : Heap} {β β1 : Bl} (hR : Rel w S H β) (hE1 : Ext w S [] [] w' S1 H1 β1) (hR1 : Rel w' S1 H1 β1) {v u : V} {x : Value} (hv : RV w' S1 H1 β1 v x) {b : Bool} (hx : exportB b H1 v = some u) :
    ∃ S' β', Ext w S H β w' S' (importV H u).2 β' ∧ Rel w' S' (importV H u).2 β' ∧ RV w' S' (importV H u).2 β' (importV H u).1 x := by
  cases b with
  | true => exact import_rel hR hE1 hR1 hv hx
  | false => exact import_data hR hE1 hR1 hv hx

/-- **A call.** -/
theorem call_ok {P : Program} {call : CallFn} (hC : CallOk P call) {f : FuncId} {args : List V} {H : Heap} {r : Res} (h : callRun P call f args H = some r) :
    (∃ fn, P.funcs[f]? = some fn ∧ fn.body.isSome = true ∧ (fn.name == "runtime.NumGoroutine") = false) ∧
    ∀ (w : World) (S : Cells) (β : Bl) (us : List Value), Rel w S H β → args.length = us.length → (∀ i (hi : i < args.length) (hu : i < us.length), RV w S H β args[i] us[i]) →
      Calls P f us.toArray w (Back w S H β r.v r.H) := by
  unfold callRun at h
  split at h
  · rename_i ts hts
    split at h
    · rename_i v H1 hcall
      split at h
      · rename_i u hex
        simp only [Option.some.injEq] at h; subst h
        obtain ⟨hfn, hcalls⟩ := hC f _ _ v H1 hcall
        refine ⟨hfn, fun w S β us hR hl hv => ?_⟩
        obtain ⟨hlen, hel⟩ := mapM_some hts
        have hraise := fold_raise depth args H
        obtain ⟨S1, hE1, hR1⟩ := hR.raise hraise
        have hrt : ∀ i (hi : i < (ts.map V.t).length) (hu : i < us.length), RV w S1 [] [] (ts.map V.t)[i] us[i] := by
          intro i hi hu
          have hi1 : i < ts.length := by simpa using hi
          have hi2 : i < args.length := by omega
          rw [List.getElem_map]
          exact .t _ _ (toT_rt hR1 depth args[i] ts[i] us[i] (toT_raise hraise depth _ _ (hel i hi2 hi1)) (fold_all depth args H _ (List.getElem_mem hi2)) ((hv i hi2 hu).mono hE1.stay hE1.grow))
        refine (hcalls w S1 [] us (Rel.none hR1.lt) (by simp; omega) hrt).mono ?_
        rintro x w' ⟨uv, S2, β2, rfl, hE2, hR2, hv2⟩
        by_cases hn : noSl u = true
        · -- nothing but numbers comes back
          simp only [hn, if_true]
          have hiu : importV H u = (u, H) := by cases u <;> first | rfl | (simp [noSl] at hn)
          rw [hiu]
          obtain ⟨S3, β3, h1, h2, h3⟩ := import_any hR1 hE2 hR2 hv2 hex
          have hiu2 : ∀ H, importV H u = (u, H) := by intro H; cases u <;> first | rfl | (simp [noSl] at hn)
          rw [hiu2] at h1 h2 h3
          refine ⟨uv, S, β, rfl, ⟨hE2.os, hE2.tape, hE2.output, hE2.size, fun b hb _ => hE2.keep b hb (by simp), fun b j hS => ⟨hS, cell_same (hE2.keep b (hR.lt b j hS) (by simp)) j⟩, fun _ _ h => .inl h, Grow.refl _ _, fun id _ c h => .inl ⟨id, c, h⟩⟩,
            ⟨hR.len, hR.inj, fun b j hS => Nat.lt_of_lt_of_le (hR.lt b j hS) hE2.size, fun id o b cap ho hb => ?_⟩, noSl_rt hn h3⟩
          have hlt := hR.block hb
          exact (hR.obj id o b cap ho hb).mono (fun b j hS => ⟨hS, cell_same (hE2.keep b (hR.lt b j hS) (by simp)) j⟩) (Grow.refl _ _) (hE2.keep b hlt (by simp)) (fun _ => Iff.rfl)
        · simp only [hn, if_false]
          obtain ⟨S3, β3, h1, h2, h3⟩ := import_any hR1 hE2 hR2 hv2 hex
          exact ⟨uv, S3, β3, rfl, hE1.trans h1, h2, h3⟩
      · cases h
    · cases h
  · split at h
    · rename_i v H1 hcall
      simp only [Option.some.injEq] at h; subst h
      exact hC f args H v H1 hcall
    · cases h
end Go.Sim
