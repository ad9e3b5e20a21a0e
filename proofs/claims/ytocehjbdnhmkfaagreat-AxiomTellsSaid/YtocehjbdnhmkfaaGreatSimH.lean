/- A part of the proof of a law of module cupola: SimH. It has no conditions of its own. -/
import Derived.Test.YtocehjbdnhmkfaaGreatSimX
set_option linter.all false
/-! What is read out as data, and held. -/
namespace Go.Sim

/-- Flags alone were raised. -/
def Raise (H H' : Heap) : Prop := H'.length = H.length ∧ ∀ (id : Nat) (o : Obj), H[id]? = some o → ∃ o' : Obj, H'[id]? = some o' ∧ o'.el = o.el ∧ o'.esz = o.esz ∧ (o.st = true → o'.st = true)

theorem Raise.refl (H : Heap) : Raise H H := ⟨rfl, fun _ o h => ⟨o, h, rfl, rfl, id⟩⟩
theorem Raise.trans {H H1 H2 : Heap} (h : Raise H H1) (k : Raise H1 H2) : Raise H H2 :=
  ⟨k.1.trans h.1, fun id o ho => by
    obtain ⟨o1, h1, e1, z1, s1⟩ := h.2 id o ho
    obtain ⟨o2, h2, e2, z2, s2⟩ := k.2 id o1 h1
    exact ⟨o2, h2, e2.trans e1, z2.trans z1, fun s => s2 (s1 s)⟩⟩

theorem Raise.set {H : Heap} {id : Nat} {o : Obj} (h : H[id]? = some o) : Raise H (H.set id { o with st := true }) := by
  refine ⟨by simp, fun id' o' ho => ?_⟩
  by_cases e : id = id'
  · subst e
    rw [h] at ho; cases ho
    have hl : id < H.length := by
      rcases Nat.lt_or_ge id H.length with h' | h'
      · exact h'
      · rw [List.getElem?_eq_none h'] at h; cases h
    exact ⟨{ o with st := true }, by simp [hl], rfl, rfl, fun _ => rfl⟩
  · exact ⟨o', by rw [List.getElem?_set_ne e]; exact ho, rfl, rfl, fun h => h⟩

theorem cur_at {H : Heap} {id n : Nat} {o : Obj} (h : cur H id n = some o) : H[id]? = some o ∧ o.el.length = n := by
  unfold cur at h
  split at h
  · rename_i o' h'
    split at h
    · cases h; exact ⟨h', by assumption⟩
    · cases h
  · cases h

theorem Raise.cur {H H' : Heap} (hr : Raise H H') {id n : Nat} {o : Obj} (h : cur H id n = some o) : ∃ o', Go.Sim.cur H' id n = some o' ∧ o'.el = o.el ∧ o'.esz = o.esz ∧ (o.st = true → o'.st = true) := by
  obtain ⟨h1, h2⟩ := cur_at h
  obtain ⟨o', h3, e, z, s⟩ := hr.2 id o h1
  exact ⟨o', by simp [Go.Sim.cur, h3, e, h2], e, z, s⟩

theorem hold_raise : ∀ (d : Nat) (H : Heap) (v : V), Raise H (hold d H v) := by
  intro d
  induction d with
  | zero => intro H v; cases v <;> exact Raise.refl _
  | succ d ih =>
    have fold : ∀ (l : List V) (H : Heap), Raise H (l.foldl (hold d) H) := by
      intro l
      induction l with
      | nil => intro H; exact Raise.refl _
      | cons v l ihl => intro H; exact (ih H v).trans (ihl _)
    intro H v
    cases v with
    | ref id n =>
      show Raise H (match cur H id n with | some o => o.el.foldl (hold d) (H.set id { o with st := true }) | none => H)
      cases hc : cur H id n with
      | none => exact Raise.refl _
      | some o => exact (Raise.set (cur_at hc).1).trans (fold _ _)
    | agg cs => exact fold _ _
    | _ => exact Raise.refl _

theorem fold_raise (d : Nat) : ∀ (l : List V) (H : Heap), Raise H (l.foldl (hold d) H) := by
  intro l
  induction l with
  | nil => intro H; exact Raise.refl _
  | cons v l ihl => intro H; exact (hold_raise d H v).trans (ihl _)

/-- All that it leads to is held. -/
def AllSt (H : Heap) : Nat → V → Prop
  | d + 1, .ref id n => ∀ o, cur H id n = some o → o.st = true ∧ ∀ y, y ∈ o.el → AllSt H d y
  | d + 1, .agg cs => ∀ y, y ∈ cs → AllSt H d y
  | _, _ => True

theorem AllSt.raise {H H' : Heap} (hr : Raise H H') : ∀ (d : Nat) (v : V), AllSt H d v → AllSt H' d v := by
  intro d
  induction d with
  | zero => intro v _; cases v <;> trivial
  | succ d ih =>
    intro v h
    cases v with
    | ref id n =>
      intro o' ho'
      obtain ⟨h1', h2'⟩ := cur_at ho'
      have hl : id < H.length := by
        rcases Nat.lt_or_ge id H'.length with h' | h'
        · rw [← hr.1]; exact h'
        · rw [List.getElem?_eq_none h'] at h1'; cases h1'
      obtain ⟨o1, h3, e, z, s⟩ := hr.2 id H[id] (List.getElem?_eq_getElem hl)
      rw [h1'] at h3; cases h3
      have hc : cur H id n = some H[id] := by simp [cur, List.getElem?_eq_getElem hl, ← e, h2']
      obtain ⟨hs, hy⟩ := h _ hc
      exact ⟨s hs, fun y hy' => ih y (hy y (by rw [← e]; exact hy'))⟩
    | agg cs => exact fun y hy => ih y (h y hy)
    | _ => trivial

theorem hold_all : ∀ (d : Nat) (H : Heap) (v : V), AllSt (hold d H v) d v := by
  intro d
  induction d with
  | zero => intro H v; cases v <;> trivial
  | succ d ih =>
    have fold : ∀ (l : List V) (H : Heap), ∀ y, y ∈ l → AllSt (l.foldl (hold d) H) d y := by
      intro l
      induction l with
      | nil => intro H y hy; cases hy
      | cons v l ihl =>
        intro H y hy
        simp only [List.foldl_cons]
        rcases List.mem_cons.1 hy with rfl | hy
        · exact (ih H y).raise (fold_raise d l _) d y
        · exact ihl _ y hy
    intro H v
    cases v with
    | ref id n =>
      show AllSt (match cur H id n with | some o => o.el.foldl (hold d) (H.set id { o with st := true }) | none => H) (d + 1) (.ref id n)
      cases hc : cur H id n with
      | none => intro o ho; simp only at ho; rw [hc] at ho; cases ho
      | some o =>
        simp only
        obtain ⟨h1, h2⟩ := cur_at hc
        intro o' ho'
        have hl : id < H.length := by
          rcases Nat.lt_or_ge id H.length with h' | h'
          · exact h'
          · rw [List.getElem?_eq_none h'] at h1; cases h1
        have hr := fold_raise d o.el (H.set id { o with st := true })
        obtain ⟨o1, h3, e, z, s⟩ := hr.2 id { o with st := true } (by simp [hl])
        rw [(cur_at ho').1] at h3; cases h3
        exact ⟨s rfl, fun y hy => fold _ _ y (by rw [e] at hy; exact hy)⟩
    | agg cs => exact fold _ _
    | _ => trivial

theorem mapM_some {α β : Type} {f : α → Option β} : ∀ {l : List α} {r : List β}, l.mapM f = some r → l.length = r.length ∧ ∀ i (hi : i < l.length) (hr : i < r.length), f l[i] = some r[i] := by
  intro l
  induction l with
  | nil => intro r h; simp at h; subst h; exact ⟨rfl, fun i hi => by simp at hi⟩
  | cons a l ih =>
    intro r h
    rw [List.mapM_cons] at h
    cases hf : f a with
    | none => simp [hf] at h
    | some b =>
      cases hm : l.mapM f with
      | none => simp [hf, hm] at h
      | some bs =>
        simp [hf, hm] at h
        subst h
        obtain ⟨h1, h2⟩ := ih hm
        refine ⟨by simp [h1], fun i hi hr => ?_⟩
        cases i with
        | zero => exact hf
        | succ i => exact h2 i (by simpa using hi) (by simpa using hr)

theorem toT_raise {H H' : Heap} (hr : Raise H H') : ∀ (d : Nat) (v : V) (x : T), toT H d v = some x → toT H' d v = some x := by
  intro d
  induction d with
  | zero => intro v x h; cases v <;> simpa [toT] using h
  | succ d ih =>
    have mm : ∀ (l : List V) (r : List T), l.mapM (toT H d) = some r → l.mapM (toT H' d) = some r := by
      intro l
      induction l with
      | nil => intro r h; simpa using h
      | cons a l ihl =>
        intro r h
        rw [List.mapM_cons] at h ⊢
        cases hf : toT H d a with
        | none => simp [hf] at h
        | some b =>
          cases hm : l.mapM (toT H d) with
          | none => simp [hf, hm] at h
          | some bs => simp [hf, hm] at h; simp [ih a b hf, ihl bs hm, h]
    intro v x h
    cases v with
    | ref id n =>
      simp only [toT] at h ⊢
      cases hc : cur H id n with
      | none => simp [hc] at h
      | some o =>
        obtain ⟨o', h1, e, _, _⟩ := hr.cur hc
        rw [h1]
        simp only [hc] at h
        simp only [e]
        cases hm : o.el.mapM (toT H d) with
        | none => simp [hm] at h
        | some bs => rw [mm _ _ hm]; simpa [hm] using h
    | agg cs =>
      simp only [toT] at h ⊢
      cases hm : cs.mapM (toT H d) with
      | none => simp [hm] at h
      | some bs => rw [mm _ _ hm]; simpa [hm] using h
    | _ => simpa [toT] using h

/-- **What is read out, and held, is so in memory.** -/
theorem toT_rt {w : World} {S : Cells} {H : Heap} {β : Bl} (hR : Rel w S H β) : ∀ (d : Nat) (v : V) (x : T) (u : Value), toT H d v = some x → AllSt H d v → RV w S H β v u → RT w S x u := by
  intro d
  induction d using Nat.strongRecOn with
  | ind d ih =>
    intro v x u ht ha hv
    have base : ∀ (y : V) (z : T) (u : Value), toT H 0 y = some z → RV w S H β y u → RT w S z u := by
      intro y z u h1 h2
      cases y <;> simp [toT] at h1 <;> subst h1
      · cases h2; assumption
      · cases h2; assumption
    cases d with
    | zero => exact base v x u ht hv
    | succ d =>
      cases v with
      | ref id n =>
        simp only [toT] at ht
        cases hc : cur H id n with
        | none => simp [hc] at ht
        | some o =>
          simp only [hc] at ht
          cases hm : o.el.mapM (toT H d) with
          | none => simp [hm] at ht
          | some xs =>
            simp [hm] at ht
            subst ht
            obtain ⟨hst, hall⟩ := ha o hc
            obtain ⟨h1, h2⟩ := cur_at hc
            cases hv with
            | ref _ _ _ hok =>
              obtain ⟨_, o', ho', hn, hb⟩ := hok
              rw [h1] at ho'; cases ho'
              obtain ⟨b, cap, hβ, rfl, hcap⟩ := hb h2
              have hO := hR.obj id o b cap h1 hβ
              obtain ⟨cs, Ty, hh, hsz, hcells⟩ := hO.row
              obtain ⟨hlen, hel⟩ := mapM_some hm
              have hnx : n = xs.length := by omega
              subst hnx
              refine RT.of_arr (esz := o.esz) ⟨fun i hi => ?_, fun i hi j hj => ?_⟩ hcap
              · -- as many cells
                have hi' : i < o.el.length := by omega
                have hc1 := (hcells i hi').1
                have := hel i hi' hi
                rw [← hc1]
                revert this
                generalize o.el[i] = y
                generalize xs[i] = z
                intro this
                cases d with
                | zero => cases y <;> simp [toT] at this <;> subst this <;> simp [V.cells, T.cells]
                          rename_i q; cases q <;> simp [V.cells, T.cells]
                | succ d' =>
                  cases y with
                  | t q => simp [toT] at this; subst this; cases q <;> simp [V.cells, T.cells]
                  | ex q => simp [toT] at this; subst this; simp [V.cells, T.cells]
                  | ref a b =>
                    simp only [toT] at this
                    cases hcc : cur H a b with
                    | none => simp [hcc] at this
                    | some oo =>
                      simp only [hcc] at this
                      cases hmm : oo.el.mapM (toT H d') with
                      | none => simp [hmm] at this
                      | some q => simp [hmm] at this; subst this; simp [V.cells, T.cells]
                  | agg cs' =>
                    simp only [toT] at this
                    cases hmm : cs'.mapM (toT H d') with
                    | none => simp [hmm] at this
                    | some q => simp [hmm] at this; subst this; simp [V.cells, T.cells, (mapM_some hmm).1]
                  | _ => simp [toT] at this
              · have hi' : i < o.el.length := by omega
                obtain ⟨hc1, hc2⟩ := hcells i hi'
                have hxi := hel i hi' hi
                have hai := hall _ (List.getElem_mem hi')
                revert hc1 hc2 hxi hai hj
                generalize o.el[i] = y
                generalize xs[i] = z
                intro hj hc1 hc2 hxi hai
                have hlenz : z.cells.length = y.cells.length ∧ ∀ (hjy : j < y.cells.length) (u : Value), RV w S H β y.cells[j] u → RT w S z.cells[j] u := by
                  cases y with
                  | t q =>
                    have : z = q := by cases d <;> simp [toT] at hxi <;> exact hxi.symm
                    subst this
                    refine ⟨by cases z <;> simp [V.cells, T.cells], fun hjy u hr => ?_⟩
                    have e : (V.t z).cells[j] = V.t (z.cells[j]) := by
                      cases z <;> simp [V.cells, T.cells] at hj ⊢
                    rw [e] at hr
                    cases hr; assumption
                  | ex q =>
                    have : z = .sl q := by cases d <;> simp [toT] at hxi <;> exact hxi.symm
                    subst this
                    refine ⟨rfl, fun hjy u hr => ?_⟩
                    have e : j = 0 := by simp [T.cells] at hj; omega
                    subst e
                    simp only [V.cells, T.cells, List.getElem_cons_zero] at hr ⊢
                    cases hr; assumption
                  | ref a b =>
                    cases d with
                    | zero => simp [toT] at hxi
                    | succ d' =>
                      have hz : z.cells = [z] := by
                        simp only [toT] at hxi
                        cases hcc : cur H a b with
                        | none => simp [hcc] at hxi
                        | some oo =>
                          simp only [hcc] at hxi
                          cases hmm : oo.el.mapM (toT H d') with
                          | none => simp [hmm] at hxi
                          | some q => simp [hmm] at hxi; subst hxi; rfl
                      refine ⟨by rw [hz]; rfl, fun hjy u hr => ?_⟩
                      have e : j = 0 := by simp [V.cells] at hjy; omega
                      subst e
                      simp only [hz, V.cells, List.getElem_cons_zero] at hr ⊢
                      exact ih (d' + 1) (by omega) _ _ _ hxi hai hr
                  | agg cs' =>
                    cases d with
                    | zero => simp [toT] at hxi
                    | succ d' =>
                      simp only [toT] at hxi
                      cases hmm : cs'.mapM (toT H d') with
                      | none => simp [hmm] at hxi
                      | some q =>
                        simp [hmm] at hxi; subst hxi
                        obtain ⟨hl', hq⟩ := mapM_some hmm
                        refine ⟨by simp [V.cells, T.cells, hl'], fun hjy u hr => ?_⟩
                        simp only [V.cells, T.cells] at hjy hj hr ⊢
                        exact ih d' (by omega) _ _ _ (hq j hjy hj) (hai _ (List.getElem_mem hjy)) hr
                  | _ => cases d <;> simp [toT] at hxi
                have hjy : j < y.cells.length := by rw [← hlenz.1]; exact hj
                obtain ⟨u, hu1, hu2⟩ := hc2 j hjy
                refine ⟨(hO.st _).2 ⟨hst, ?_⟩, u, ?_, hlenz.2 hjy u hu2⟩
                · have : j < o.esz := by omega
                  have h3 : (i + 1) * o.esz ≤ o.el.length * o.esz := Nat.mul_le_mul_right _ (by omega)
                  rw [Nat.succ_mul] at h3
                  omega
                · rw [cell_of_heap hh]
                  simpa using hu1
      | agg cs =>
        simp only [toT] at ht
        cases hm : cs.mapM (toT H d) with
        | none => simp [hm] at ht
        | some xs =>
          simp [hm] at ht
          subst ht
          obtain ⟨hlen, hel⟩ := mapM_some hm
          cases hv with
          | agg _ us hl h =>
            refine RT.agg xs us (by omega) fun i hi hu => ?_
            have hi' : i < cs.length := by omega
            exact ih d (by omega) _ _ _ (hel i hi' hi) (ha _ (List.getElem_mem hi')) (h i hi' hu)
      | t y => exact base _ _ _ (by simpa [toT] using ht) hv
      | ex y => exact base _ _ _ (by simpa [toT] using ht) hv
      | _ => simp [toT] at ht

/-- Flags raised: what they stand for is stable from now on. -/
theorem Rel.raise {w : World} {S : Cells} {H H' : Heap} {β : Bl} (h : Rel w S H β) (hr : Raise H H') :
    ∃ S', Ext w S H β w S' H' β ∧ Rel w S' H' β := by
  let S' : Cells := fun b j => S b j ∨ ∃ (id : Nat) (o : Obj) (c : Nat), H'[id]? = some o ∧ o.st = true ∧ β[id]? = some (b, c) ∧ j < o.el.length * o.esz
  have hs : Stay w S w S' := fun b j hS => ⟨.inl hS, rfl⟩
  have hg : Grow H β H' β := fun id o ho => by
    obtain ⟨o', h1, e, z, s⟩ := hr.2 id o ho
    exact ⟨o', h1, z, by rw [e]; exact Nat.le_refl _, fun _ => rfl⟩
  refine ⟨S', ⟨rfl, rfl, rfl, Nat.le_refl _, fun _ _ _ => rfl, hs, ?_, hg, fun id _ c e => .inl ⟨id, c, e⟩⟩, ⟨h.len.trans hr.1.symm, h.inj, ?_, ?_⟩⟩
  · rintro b j (hS | ⟨id, o, c, _, _, e, _⟩)
    · exact .inl hS
    · exact .inr (.inr ⟨id, c, e⟩)
  · rintro b j (hS | ⟨id, o, c, _, _, e, _⟩)
    · exact h.lt b j hS
    · exact h.block e
  · intro id o' b c ho' e
    have hl : id < H.length := by
      rcases Nat.lt_or_ge id H'.length with h' | h'
      · rw [← hr.1]; exact h'
      · rw [List.getElem?_eq_none h'] at ho'; cases ho'
    have ho := List.getElem?_eq_getElem hl
    obtain ⟨o1, h1, e1, z1, s1⟩ := hr.2 id H[id] ho
    rw [ho'] at h1; cases h1
    have hO := h.obj id H[id] b c ho e
    refine ⟨by rw [z1]; exact hO.pos, by rw [e1]; exact hO.room, fun j => ?_, ?_⟩
    · constructor
      · rintro (hS | ⟨id2, o2, c2, h2, hst2, e2, hj⟩)
        · obtain ⟨a, b⟩ := (hO.st j).1 hS
          exact ⟨s1 a, by rw [e1, z1]; exact b⟩
        · have := h.inj id2 id b c2 c e2 e
          subst this
          rw [ho'] at h2; cases h2
          exact ⟨hst2, hj⟩
      · rintro ⟨a, hj⟩
        exact .inr ⟨id, o', c, ho', a, e, hj⟩
    · obtain ⟨cs, Ty, h2, h3, h4⟩ := hO.row
      refine ⟨cs, Ty, h2, by rw [z1]; exact h3, ?_⟩
      rw [e1, z1]
      intro i hi
      refine ⟨(h4 i hi).1, fun j hj => ?_⟩
      obtain ⟨u, h5, h6⟩ := (h4 i hi).2 j hj
      exact ⟨u, h5, h6.mono hs hg⟩

/-- A value is held, and is data. -/
theorem Rel.hold {w : World} {S : Cells} {H : Heap} {β : Bl} (h : Rel w S H β) (v : V) (u : Value) (hv : RV w S H β v u) :
    ∃ S', Ext w S H β w S' (hold depth H v) β ∧ Rel w S' (Go.Sim.hold depth H v) β ∧ ∀ x, toT H depth v = some x → RT w S' x u := by
  obtain ⟨S', hE, hR⟩ := h.raise (hold_raise depth H v)
  exact ⟨S', hE, hR, fun x hx => toT_rt hR depth v x u (toT_raise (hold_raise depth H v) depth v x hx) (hold_all depth H v) (hv.mono hE.stay hE.grow)⟩

end Go.Sim
