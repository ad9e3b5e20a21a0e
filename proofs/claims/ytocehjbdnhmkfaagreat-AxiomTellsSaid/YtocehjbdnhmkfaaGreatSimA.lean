/- A part of the proof of a law of module cupola: SimA. It has no conditions of its own. -/
import Derived.Test.YtocehjbdnhmkfaaGreatSimT
import Derived.Laws.AppendOwn
set_option linter.all false
/-! Rows that become greater. -/
namespace Go.Sim

theorem row_of {P : Program} {e : TypeId} {p : Nat × Nat} (h : rowOf P e = some p) : ∃ i zv, P.info? e = some i ∧ i.size = p.1 ∧ i.bytes = p.2 ∧ i.zero = some zv ∧ zv.cells.size = p.1 ∧ 0 < p.1 ∧ 0 < p.2 := by
  unfold rowOf row1 at h
  split at h
  · rename_i i z hi hz
    split at h
    · rename_i hh
      cases h
      obtain ⟨inf, h1, h2, h3⟩ := info_of hi
      obtain ⟨inf', zv, h4, h5, h6⟩ := zeroV_rv hz
      rw [h1] at h4; cases h4
      refine ⟨inf, zv, h1, h2, h3, h5, ?_, hh.2.1, hh.2.2⟩
      rw [← (h6 default (fun _ _ => False) [] []).cells.1]; exact hh.1
    · cases h
  · cases h

/-- The first cells of a row, read. -/
theorem first_row {P : Program} {w : World} {S : Cells} {H : Heap} {β : Bl} {el : List V} {base : Option Addr} {cap size : Nat}
    (h : el = [] ∨ ∃ b o esz, base = some ⟨b, o, none⟩ ∧ RowAt w S H β el b o esz) (hs : ∀ i (hi : i < el.length), (el[i]).cells.length = size) (hp : 0 < size) :
    ∃ news : List Value, news.length = el.length * size ∧ (∀ w' : World, w'.heap = w.heap → (Builtin.firstCells size el.length (.slice base el.length cap)).run P w' = .ok news.toArray w') ∧
      (∀ i (hi : i < el.length) j (hj : j < (el[i]).cells.length), ∃ x, news[i * size + j]? = some x ∧ RV w S H β (el[i]).cells[j] x) ∧
      ((el.all (fun y => y.storable)) = true → ∀ u ∈ news, u.oneCell' = true) := by
  by_cases he : el = []
  · subst he
    refine ⟨[], by simp, fun w' _ => ?_, fun i hi => by simp at hi, fun _ u hu => by simp at hu⟩
    cases base with
    | none => rfl
    | some a =>
      simp only [Builtin.firstCells, List.length_nil, Nat.zero_mul]
      have := run_loadCells_list (P := P) w' a [] (fun j v hj => by simp at hj)
      simpa using this
  · obtain ⟨b, o, esz, rfl, hr⟩ := h.resolve_left he
    have hpos : 0 < el.length := List.length_pos_iff.2 he
    have hesz : esz = size := by rw [← hr.len 0 hpos, hs 0 hpos]
    subst hesz
    have hcell : ∀ k, k < el.length * esz → ∃ (hi : k / esz < el.length) (hj : k % esz < (el[k / esz]).cells.length) (x : Value), w.cell? ⟨b, o + k, none⟩ = some x ∧ RV w S H β (el[k / esz]).cells[k % esz] x := by
      intro k hk
      have hi : k / esz < el.length := (Nat.div_lt_iff_lt_mul hp).2 hk
      have hj : k % esz < (el[k / esz]).cells.length := by rw [hs _ hi]; exact Nat.mod_lt _ hp
      obtain ⟨x, h1, h2⟩ := hr.cell _ hi _ hj
      refine ⟨hi, hj, x, ?_, h2⟩
      have e : o + k / esz * esz + k % esz = o + k := by have := Nat.div_add_mod k esz; rw [Nat.mul_comm] at this; omega
      rw [e] at h1; exact h1
    have hget : ∀ k, k < el.length * esz → (((List.range (el.length * esz)).map fun k => (w.cell? ⟨b, o + k, none⟩).getD undef))[k]? = w.cell? ⟨b, o + k, none⟩ := by
      intro k hk
      obtain ⟨_, _, x, h1, _⟩ := hcell k hk
      simp [hk, h1]
    refine ⟨(List.range (el.length * esz)).map fun k => (w.cell? ⟨b, o + k, none⟩).getD undef, by simp, fun w' hw => ?_, fun i hi j hj => ?_, fun hall u hu => ?_⟩
    · have := run_loadCells_list (P := P) w' ⟨b, o, none⟩ ((List.range (el.length * esz)).map fun k => (w.cell? ⟨b, o + k, none⟩).getD undef) (fun j v hj => by
        have hlt : j < el.length * esz := by
          rcases Nat.lt_or_ge j (el.length * esz) with h' | h'
          · exact h'
          · rw [List.getElem?_eq_none (by simpa using h')] at hj; cases hj
        rw [hget j hlt] at hj
        rw [add0, ← hj]
        exact cell_same (by rw [hw]) _)
      simpa [Builtin.firstCells] using this
    · have hj' : j < esz := by rw [← hs i hi]; exact hj
      have hk : i * esz + j < el.length * esz := by
        have : (i + 1) * esz ≤ el.length * esz := Nat.mul_le_mul_right _ hi
        rw [Nat.succ_mul] at this; omega
      obtain ⟨x, h1, h2⟩ := hr.cell i hi j hj
      refine ⟨x, ?_, h2⟩
      rw [hget _ hk, ← Nat.add_assoc]; exact h1
    · simp only [List.mem_map, List.mem_range] at hu
      obtain ⟨k, hk, rfl⟩ := hu
      obtain ⟨hi, hj, x, h1, h2⟩ := hcell k hk
      rw [h1]
      simp only [Option.getD_some]
      refine cell1_one h2 ?_
      have := List.all_eq_true.1 hall _ (List.getElem_mem hi)
      simp only [V.storable, Bool.and_eq_true, List.all_eq_true] at this
      exact this.2 _ (List.getElem_mem hj)

/-- A row of one's own has become greater where it lies. -/
theorem Rel.more {w : World} {S : Cells} {H : Heap} {β : Bl} (hR : Rel w S H β) {id : Nat} {o : Obj} {b cap : Nat} (ho : H[id]? = some o) (hβ : β[id]? = some (b, cap))
    {ys : List V} (hcap : o.el.length + ys.length ≤ cap) {cs : Array Value} {T : TypeId} (hcs : w.heap[b]? = some (.cells cs T (0, 0))) {cs' : Array Value} (hsz : cs'.size = cs.size)
    (hold : ∀ j, j < o.el.length * o.esz → cs'[j]? = cs[j]?)
    (hc : ∀ i (hi : i < ys.length), (ys[i]).cells.length = o.esz ∧ ∀ j (hj : j < (ys[i]).cells.length), ∃ u, cs'[(o.el.length + i) * o.esz + j]? = some u ∧ RV w S H β (ys[i]).cells[j] u) :
    ∃ S', Ext w S H β (w.setRow b cs') S' (H.set id { o with el := o.el ++ ys }) β ∧ Rel (w.setRow b cs') S' (H.set id { o with el := o.el ++ ys }) β := by
  have hO := hR.obj id o b cap ho hβ
  have hid : id < H.length := by
    rcases Nat.lt_or_ge id H.length with h' | h'
    · exact h'
    · rw [List.getElem?_eq_none h'] at ho; cases ho
  have hlt : b < w.heap.size := heap_lt hcs
  have hbc : (w.setRow b cs').heap[b]? = some (.cells cs' T (0, 0)) := setRow_heap w b cs cs' T (0, 0) hcs
  let S' : Cells := fun b' j => S b' j ∨ (b' = b ∧ o.st = true ∧ j < (o.el.length + ys.length) * o.esz)
  have hs : Stay w S (w.setRow b cs') S' := fun b' j hS => ⟨.inl hS, by
    by_cases e : b' = b
    · subst e
      rw [cell_of_heap hbc, cell_of_heap hcs]
      exact hold j ((hO.st j).1 hS).2
    · exact cell_same (setRow_other w b b' cs' e) j⟩
  have hg : Grow H β (H.set id { o with el := o.el ++ ys }) β := by
    intro id' o' ho'
    by_cases e : id = id'
    · subst e
      rw [ho] at ho'; cases ho'
      exact ⟨{ o with el := o.el ++ ys }, by simp [hid], rfl, by simp, fun _ => rfl⟩
    · exact ⟨o', by rw [List.getElem?_set_ne e]; exact ho', rfl, Nat.le_refl _, fun _ => rfl⟩
  refine ⟨S', ⟨rfl, rfl, rfl, by simp, fun b' _ hn => setRow_other w b b' cs' (fun e => hn id cap (e ▸ hβ)), hs, ?_, hg, fun id _ c e => .inl ⟨id, c, e⟩⟩,
    ⟨by simp [hR.len], hR.inj, ?_, ?_⟩⟩
  · rintro b' j (h | ⟨rfl, _, _⟩)
    · exact .inl h
    · exact .inr (.inr ⟨id, cap, hβ⟩)
  · rintro b' j (h | ⟨rfl, _, _⟩)
    · simpa using hR.lt b' j h
    · simpa using hlt
  · intro id' o' b' c' ho' hβ'
    by_cases e : id = id'
    · subst e
      rw [hβ] at hβ'; cases hβ'
      simp [hid] at ho'
      subst ho'
      refine ⟨hO.pos, by simpa using hcap, fun j => ?_, cs', T, hbc, ?_, fun i hi => ?_⟩
      · simp only [List.length_append]
        constructor
        · rintro (h | ⟨_, h1, h2⟩)
          · obtain ⟨h1, h2⟩ := (hO.st j).1 h
            refine ⟨h1, Nat.lt_of_lt_of_le h2 (Nat.mul_le_mul_right _ (by omega))⟩
          · exact ⟨h1, h2⟩
        · rintro ⟨h1, h2⟩; exact .inr ⟨rfl, h1, h2⟩
      · obtain ⟨cs2, T2, h1, h2, _⟩ := hO.row
        rw [hcs] at h1; cases h1
        rw [hsz]; exact h2
      · obtain ⟨cs2, T2, h1, h2, h3⟩ := hO.row
        rw [hcs] at h1; cases h1
        simp only at hi ⊢
        by_cases hlo : i < o.el.length
        · rw [List.getElem_append_left hlo]
          refine ⟨(h3 i hlo).1, fun j hj => ?_⟩
          obtain ⟨u, h4, h5⟩ := (h3 i hlo).2 j hj
          refine ⟨u, ?_, h5.mono hs hg⟩
          rw [hold]
          · exact h4
          · have h6 : (i + 1) * o.esz ≤ o.el.length * o.esz := Nat.mul_le_mul_right _ hlo
            rw [Nat.succ_mul] at h6
            have := (h3 i hlo).1
            omega
        · have hi' : i - o.el.length < ys.length := by simp at hi; omega
          rw [List.getElem_append_right (by omega)]
          refine ⟨(hc _ hi').1, fun j hj => ?_⟩
          obtain ⟨u, h4, h5⟩ := (hc _ hi').2 j hj
          refine ⟨u, ?_, h5.mono hs hg⟩
          rw [show o.el.length + (i - o.el.length) = i by omega] at h4
          exact h4
    · rw [List.getElem?_set_ne e] at ho'
      have hne : b' ≠ b := fun e' => e (hR.inj id id' b cap c' hβ (e' ▸ hβ'))
      refine (hR.obj id' o' b' c' ho' hβ').mono hs hg (setRow_other w b b' cs' hne) (fun j => ⟨?_, .inl⟩)
      rintro (h | ⟨h, _⟩)
      · exact h
      · exact absurd h hne

/-- A row of one's own has become greater in another place. -/
theorem Rel.moved {w w0 : World} {S : Cells} {H : Heap} {β : Bl} (hR : Rel w S H β) (hw : w0 = w.drew) {id : Nat} {o : Obj} {b cap cap' : Nat} (ho : H[id]? = some o) (hβ : β[id]? = some (b, cap))
    {ys : List V} (hcap : o.el.length + ys.length ≤ cap') {T : TypeId} {cs' : Array Value} (hsz : cs'.size = cap' * o.esz)
    (hc : ∀ i (hi : i < (o.el ++ ys).length), ((o.el ++ ys)[i]).cells.length = o.esz ∧ ∀ j (hj : j < ((o.el ++ ys)[i]).cells.length), ∃ u, cs'[i * o.esz + j]? = some u ∧ RV w S H β ((o.el ++ ys)[i]).cells[j] u) (hy : ys ≠ []) :
    ∃ S', Ext w S H β (w0.alloc (.cells cs' T)) S' (H.set id { o with el := o.el ++ ys }) (β.set id (w.heap.size, cap')) ∧ Rel (w0.alloc (.cells cs' T)) S' (H.set id { o with el := o.el ++ ys }) (β.set id (w.heap.size, cap')) := by
  subst hw
  have hO := hR.obj id o b cap ho hβ
  have hid : id < H.length := by
    rcases Nat.lt_or_ge id H.length with h' | h'
    · exact h'
    · rw [List.getElem?_eq_none h'] at ho; cases ho
  have hidβ : id < β.length := by rw [hR.len]; exact hid
  have hold : ∀ b', b' < w.heap.size → (w.drew.alloc (.cells cs' T)).heap[b']? = w.heap[b']? := fun b' hb' => alloc_old w.drew (.cells cs' T) b' hb'
  have hnew : (w.drew.alloc (.cells cs' T)).heap[w.heap.size]? = some (.cells cs' T) := alloc_new w.drew (.cells cs' T)
  have hsize : (w.drew.alloc (.cells cs' T)).heap.size = w.heap.size + 1 := alloc_size w.drew _
  let S' : Cells := fun b' j => S b' j ∨ (b' = w.heap.size ∧ o.st = true ∧ j < (o.el.length + ys.length) * o.esz)
  have hs : Stay w S (w.drew.alloc (.cells cs' T)) S' := fun b' j hS => ⟨.inl hS, cell_same (hold b' (hR.lt b' j hS)) j⟩
  have hypos : 0 < ys.length := List.length_pos_iff.2 hy
  have hg : Grow H β (H.set id { o with el := o.el ++ ys }) (β.set id (w.heap.size, cap')) := by
    intro id' o' ho'
    by_cases e : id = id'
    · subst e
      rw [ho] at ho'; cases ho'
      refine ⟨{ o with el := o.el ++ ys }, by simp [hid], rfl, by simp, fun h => ?_⟩
      simp at h; exact absurd h hy
    · exact ⟨o', by rw [List.getElem?_set_ne e]; exact ho', rfl, Nat.le_refl _, fun _ => by rw [List.getElem?_set_ne e]⟩
  have hβ' : ∀ (i b' c' : Nat), (β.set id (w.heap.size, cap'))[i]? = some (b', c') → (i = id ∧ b' = w.heap.size ∧ c' = cap') ∨ (i ≠ id ∧ β[i]? = some (b', c')) := by
    intro i b' c' h
    by_cases e : id = i
    · subst e
      simp [hidβ] at h
      exact .inl ⟨rfl, h.1.symm, h.2.symm⟩
    · rw [List.getElem?_set_ne e] at h
      exact .inr ⟨fun h' => e h'.symm, h⟩
  refine ⟨S', ⟨rfl, rfl, rfl, by rw [hsize]; omega, fun b' hb' _ => hold b' hb', hs, ?_, hg, ?_⟩,
    ⟨by simp [hR.len], ?_, ?_, ?_⟩⟩
  · rintro b' j (h | ⟨rfl, _, _⟩)
    · exact .inl h
    · exact .inr (.inl (Nat.le_refl _))
  · intro i b' c' h
    rcases hβ' i b' c' h with ⟨_, rfl, _⟩ | ⟨_, h⟩
    · exact .inr (Nat.le_refl _)
    · exact .inl ⟨i, c', h⟩
  · intro i j b' c' c'' h1 h2
    rcases hβ' i b' c' h1 with ⟨e1, hb1, _⟩ | ⟨hn1, h3⟩ <;> rcases hβ' j b' c'' h2 with ⟨e2, hb2, _⟩ | ⟨hn2, h4⟩
    · rw [e1, e2]
    · have := hR.block h4; omega
    · have := hR.block h3; omega
    · exact hR.inj i j b' c' c'' h3 h4
  · rintro b' j (h | ⟨rfl, _, _⟩)
    · have := hR.lt b' j h; rw [hsize]; omega
    · rw [hsize]; omega
  · intro id' o' b' c' ho' hb'
    rcases hβ' id' b' c' hb' with ⟨rfl, rfl, rfl⟩ | ⟨hn, h⟩
    · simp [hid] at ho'
      subst ho'
      refine ⟨hO.pos, by simpa using hcap, fun j => ?_, cs', T, hnew, hsz, fun i hi => ⟨(hc i hi).1, fun j hj => ?_⟩⟩
      · simp only [List.length_append]
        constructor
        · rintro (h | ⟨_, h1, h2⟩)
          · exact absurd (hR.lt _ _ h) (by omega)
          · exact ⟨h1, h2⟩
        · rintro ⟨h1, h2⟩; exact .inr ⟨rfl, h1, h2⟩
      · obtain ⟨u, h4, h5⟩ := (hc i hi).2 j hj
        exact ⟨u, h4, h5.mono hs hg⟩
    · rw [List.getElem?_set_ne (fun e => hn e.symm)] at ho'
      have hlt := hR.block h
      refine (hR.obj id' o' b' c' ho' h).mono hs hg (hold b' hlt) (fun j => ⟨?_, .inl⟩)
      rintro (h | ⟨rfl, _⟩)
      · exact h
      · omega
end Go.Sim
