/- A part of the proof of a law of module cupola: SimX. It has no conditions of its own. -/
import Derived.Test.YtocehjbdnhmkfaaGreatSimR
set_option linter.all false
/-! The world and the own heap, side by side. -/
namespace Go.Sim

/-- A row of the own heap lies in a block. -/
structure ObjOk (w : World) (S : Cells) (H : Heap) (β : Bl) (o : Obj) (b cap : Nat) : Prop where
  pos : 0 < o.esz
  room : o.el.length ≤ cap
  st : ∀ j, S b j ↔ (o.st = true ∧ j < o.el.length * o.esz)
  row : ∃ cs T, w.heap[b]? = some (.cells cs T (0, 0)) ∧ cs.size = cap * o.esz ∧
    ∀ i (hi : i < o.el.length), (o.el[i]).cells.length = o.esz ∧ ∀ j (hj : j < (o.el[i]).cells.length), ∃ u, cs[i * o.esz + j]? = some u ∧ RV w S H β (o.el[i]).cells[j] u

structure Rel (w : World) (S : Cells) (H : Heap) (β : Bl) : Prop where
  len : β.length = H.length
  inj : ∀ (i j b c c' : Nat), β[i]? = some (b, c) → β[j]? = some (b, c') → i = j
  lt : ∀ b j, S b j → b < w.heap.size
  obj : ∀ (id : Nat) (o : Obj) (b cap : Nat), H[id]? = some o → β[id]? = some (b, cap) → ObjOk w S H β o b cap

/-- What may have become of it. -/
structure Ext (w : World) (S : Cells) (H : Heap) (β : Bl) (w' : World) (S' : Cells) (H' : Heap) (β' : Bl) : Prop where
  os : w'.os = w.os
  tape : w'.tape = w.tape
  output : w'.output = w.output
  size : w.heap.size ≤ w'.heap.size
  keep : ∀ b, b < w.heap.size → (∀ (id c : Nat), β[id]? ≠ some (b, c)) → w'.heap[b]? = w.heap[b]?
  stay : Stay w S w' S'
  new : ∀ b j, S' b j → S b j ∨ w.heap.size ≤ b ∨ ∃ id c : Nat, β[id]? = some (b, c)
  grow : Grow H β H' β'
  own : ∀ (id b c : Nat), β'[id]? = some (b, c) → (∃ id' c' : Nat, β[id']? = some (b, c')) ∨ w.heap.size ≤ b

theorem Stay.refl (w : World) (S : Cells) : Stay w S w S := fun _ _ h => ⟨h, rfl⟩
theorem Stay.trans {w w1 w2 : World} {S S1 S2 : Cells} (h : Stay w S w1 S1) (k : Stay w1 S1 w2 S2) : Stay w S w2 S2 := fun b j hs =>
  ⟨(k b j (h b j hs).1).1, ((k b j (h b j hs).1).2).trans (h b j hs).2⟩

theorem Ext.refl (w : World) (S : Cells) (H : Heap) (β : Bl) : Ext w S H β w S H β :=
  ⟨rfl, rfl, rfl, Nat.le_refl _, fun _ _ _ => rfl, Stay.refl _ _, fun _ _ h => .inl h, Grow.refl _ _, fun id _ c h => .inl ⟨id, c, h⟩⟩

theorem Ext.trans {w w1 w2 : World} {S S1 S2 : Cells} {H H1 H2 : Heap} {β β1 β2 : Bl} (h : Ext w S H β w1 S1 H1 β1) (k : Ext w1 S1 H1 β1 w2 S2 H2 β2) : Ext w S H β w2 S2 H2 β2 where
  os := k.os.trans h.os
  tape := k.tape.trans h.tape
  output := k.output.trans h.output
  size := Nat.le_trans h.size k.size
  keep := fun b hb hn => (k.keep b (Nat.lt_of_lt_of_le hb h.size) (fun id c e => by
    rcases h.own id b c e with ⟨id', c', e'⟩ | hge
    · exact hn id' c' e'
    · omega)).trans (h.keep b hb hn)
  stay := h.stay.trans k.stay
  new := fun b j hs => by
    rcases k.new b j hs with h1 | h1 | ⟨id, c, h1⟩
    · exact h.new b j h1
    · exact .inr (.inl (Nat.le_trans h.size h1))
    · rcases h.own id b c h1 with h2 | h2
      · obtain ⟨id', c', h2⟩ := h2; exact .inr (.inr ⟨id', c', h2⟩)
      · exact .inr (.inl h2)
  grow := h.grow.trans k.grow
  own := fun id b c e => by
    rcases k.own id b c e with ⟨id', c', e'⟩ | hge
    · exact h.own id' b c' e'
    · exact .inr (Nat.le_trans h.size hge)

/-- Nothing of one's own: nothing that was there has turned. -/
theorem Ext.below {w w' : World} {S S' : Cells} {H' : Heap} {β' : Bl} (h : Ext w S [] [] w' S' H' β') : w'.os = w.os ∧ w'.tape = w.tape ∧ w'.output = w.output ∧ w.heap.size ≤ w'.heap.size ∧ ∀ k, k < w.heap.size → w'.heap[k]? = w.heap[k]? :=
  ⟨h.os, h.tape, h.output, h.size, fun k hk => h.keep k hk (by simp)⟩

theorem ObjOk.mono {w w' : World} {S S' : Cells} {H H' : Heap} {β β' : Bl} {o : Obj} {b cap : Nat} (h : ObjOk w S H β o b cap) (hs : Stay w S w' S') (hg : Grow H β H' β')
    (hb : w'.heap[b]? = w.heap[b]?) (hst : ∀ j, S' b j ↔ S b j) : ObjOk w' S' H' β' o b cap where
  pos := h.pos
  room := h.room
  st := fun j => (hst j).trans (h.st j)
  row := by
    obtain ⟨cs, T, h1, h2, h3⟩ := h.row
    refine ⟨cs, T, by rw [hb]; exact h1, h2, fun i hi => ⟨(h3 i hi).1, fun j hj => ?_⟩⟩
    obtain ⟨u, h4, h5⟩ := (h3 i hi).2 j hj
    exact ⟨u, h4, h5.mono hs hg⟩

theorem heap_lt {w : World} {b : Nat} {o : Go.Obj} (h : w.heap[b]? = some o) : b < w.heap.size := by
  rcases Nat.lt_or_ge b w.heap.size with h' | h'
  · exact h'
  · rw [Array.getElem?_eq_none h'] at h; cases h

theorem cell_of_heap {w : World} {b j : Nat} {cs : Array Value} {T : TypeId} {fr : Nat × Nat} (h : w.heap[b]? = some (.cells cs T fr)) : w.cell? ⟨b, j, none⟩ = cs[j]? := by
  simp [World.cell?, h]

theorem cell_same {w w' : World} {b : Nat} (h : w'.heap[b]? = w.heap[b]?) (j : Nat) : w'.cell? ⟨b, j, none⟩ = w.cell? ⟨b, j, none⟩ := by
  simp [World.cell?, h]

theorem Rel.block {w : World} {S : Cells} {H : Heap} {β : Bl} (h : Rel w S H β) {id b c : Nat} (e : β[id]? = some (b, c)) : b < w.heap.size := by
  have hl : id < β.length := by
    rcases Nat.lt_or_ge id β.length with h' | h'
    · exact h'
    · rw [List.getElem?_eq_none h'] at e; cases e
  have : id < H.length := by rw [← h.len]; exact hl
  obtain ⟨cs, T, h1, _⟩ := (h.obj id H[id] b c (List.getElem?_eq_getElem this) e).row
  exact heap_lt h1

theorem Rel.at {w : World} {S : Cells} {H : Heap} {β : Bl} (h : Rel w S H β) {id : Nat} {o : Obj} (e : H[id]? = some o) : ∃ b c, β[id]? = some (b, c) := by
  have hl : id < H.length := by
    rcases Nat.lt_or_ge id H.length with h' | h'
    · exact h'
    · rw [List.getElem?_eq_none h'] at e; cases e
  have : id < β.length := by rw [h.len]; exact hl
  exact ⟨(β[id]).1, (β[id]).2, by rw [List.getElem?_eq_getElem this]⟩

theorem alloc_size (w : World) (o : Go.Obj) : (w.alloc o).heap.size = w.heap.size + 1 := by
  show (w.heap.push o).size = _
  simp
theorem alloc_old (w : World) (o : Go.Obj) (k : Nat) (h : k < w.heap.size) : (w.alloc o).heap[k]? = w.heap[k]? := by
  show (w.heap.push o)[k]? = _
  rw [Array.getElem?_push, if_neg (by omega)]
theorem alloc_new (w : World) (o : Go.Obj) : (w.alloc o).heap[w.heap.size]? = some o := by
  show (w.heap.push o)[w.heap.size]? = _
  rw [Array.getElem?_push, if_pos rfl]

theorem Stay.alloc {w : World} {S : Cells} (hlt : ∀ b j, S b j → b < w.heap.size) (o : Go.Obj) : Stay w S (w.alloc o) S := fun b j h =>
  ⟨h, cell_same (alloc_old w o b (hlt b j h)) j⟩

theorem Grow.push {H : Heap} {β : Bl} (hl : β.length = H.length) (o : Obj) (p : Nat × Nat) : Grow H β (H ++ [o]) (β ++ [p]) := by
  intro id o' ho
  have hid : id < H.length := by
    rcases Nat.lt_or_ge id H.length with h' | h'
    · exact h'
    · rw [List.getElem?_eq_none h'] at ho; cases ho
  exact ⟨o', by rw [List.getElem?_append_left hid]; exact ho, rfl, Nat.le_refl _, fun _ => by rw [List.getElem?_append_left (by omega)]⟩

/-- A new row of one's own. -/
theorem Rel.push {w : World} {S : Cells} {H : Heap} {β : Bl} (h : Rel w S H β) {cs : Array Value} {T : TypeId} {o : Obj} {cap : Nat} (hst : o.st = false) (hp : 0 < o.esz) (hr : o.el.length ≤ cap) (hc : cs.size = cap * o.esz)
    (hv : ∀ i (hi : i < o.el.length), (o.el[i]).cells.length = o.esz ∧ ∀ j (hj : j < (o.el[i]).cells.length), ∃ u, cs[i * o.esz + j]? = some u ∧ RV w S H β (o.el[i]).cells[j] u) :
    Ext w S H β (w.alloc (.cells cs T)) S (H ++ [o]) (β ++ [(w.heap.size, cap)]) ∧ Rel (w.alloc (.cells cs T)) S (H ++ [o]) (β ++ [(w.heap.size, cap)]) := by
  have hs := Stay.alloc h.lt (.cells cs T)
  have hg := Grow.push h.len o (w.heap.size, cap)
  have hold : ∀ (id b c : Nat), (β ++ [(w.heap.size, cap)])[id]? = some (b, c) → (β[id]? = some (b, c) ∧ id < β.length) ∨ (id = β.length ∧ b = w.heap.size ∧ c = cap) := by
    intro id b c e
    rcases Nat.lt_trichotomy id β.length with hlt | heq | hgt
    · rw [List.getElem?_append_left hlt] at e; exact .inl ⟨e, hlt⟩
    · subst heq; simp at e; exact .inr ⟨rfl, e.1.symm, e.2.symm⟩
    · rw [List.getElem?_eq_none (by simp; omega)] at e; cases e
  refine ⟨⟨rfl, rfl, rfl, by rw [alloc_size]; omega, fun b hb _ => alloc_old _ _ _ hb, hs, fun _ _ h => .inl h, hg, ?_⟩, ⟨by simp [h.len], ?_, ?_, ?_⟩⟩
  · intro id b c e
    rcases hold id b c e with ⟨e', _⟩ | ⟨_, rfl, _⟩
    · exact .inl ⟨id, c, e'⟩
    · exact .inr (Nat.le_refl _)
  · intro i j b c c' e1 e2
    rcases hold i b c e1 with ⟨e1', _⟩ | ⟨rfl, hb1, _⟩ <;> rcases hold j b c' e2 with ⟨e2', _⟩ | ⟨rfl, hb2, _⟩
    · exact h.inj i j b c c' e1' e2'
    · have := h.block e1'; omega
    · have := h.block e2'; omega
    · rfl
  · intro b j hS; have := h.lt b j hS; rw [alloc_size]; omega
  · intro id o' b c ho e
    rcases hold id b c e with ⟨e', hlt⟩ | ⟨rfl, rfl, rfl⟩
    · rw [List.getElem?_append_left (by rw [← h.len]; exact hlt)] at ho
      exact (h.obj id o' b c ho e').mono hs hg (alloc_old _ _ _ (h.block e')) (fun _ => Iff.rfl)
    · rw [h.len] at ho
      simp at ho
      subst ho
      refine ⟨hp, hr, fun j => ⟨fun hS => absurd (h.lt _ _ hS) (by omega), fun hh => by rw [hst] at hh; exact absurd hh.1 (by simp)⟩, cs, T, alloc_new _ _, hc, fun i hi => ⟨(hv i hi).1, fun j hj => ?_⟩⟩
      obtain ⟨u, h1, h2⟩ := (hv i hi).2 j hj
      exact ⟨u, h1, h2.mono hs hg⟩

/-- A new block that is never written: it is stable. -/
theorem Rel.fixed {w : World} {S : Cells} {H : Heap} {β : Bl} (h : Rel w S H β) (cs : Array Value) (T : TypeId) :
    Ext w S H β (w.alloc (.cells cs T)) (fun b j => S b j ∨ b = w.heap.size) H β ∧ Rel (w.alloc (.cells cs T)) (fun b j => S b j ∨ b = w.heap.size) H β := by
  have hs : Stay w S (w.alloc (.cells cs T)) (fun b j => S b j ∨ b = w.heap.size) := fun b j hS => ⟨.inl hS, (Stay.alloc h.lt (.cells cs T) b j hS).2⟩
  refine ⟨⟨rfl, rfl, rfl, by rw [alloc_size]; omega, fun b hb _ => alloc_old _ _ _ hb, hs, ?_, Grow.refl _ _, fun id _ c e => .inl ⟨id, c, e⟩⟩, ⟨h.len, h.inj, ?_, ?_⟩⟩
  · rintro b j (hS | rfl)
    · exact .inl hS
    · exact .inr (.inl (Nat.le_refl _))
  · rintro b j (hS | rfl)
    · have := h.lt b j hS; rw [alloc_size]; omega
    · rw [alloc_size]; omega
  · intro id o b c ho e
    have hb := h.block e
    exact (h.obj id o b c ho e).mono hs (Grow.refl _ _) (alloc_old _ _ _ hb) (fun j => ⟨fun hh => hh.resolve_right (by omega), .inl⟩)

/-- The counts of the world are nothing. -/
theorem Ext.drawn {w : World} {S : Cells} {H : Heap} {β : Bl} (n : Nat) : Ext w S H β { w with drawn := n } S H β :=
  ⟨rfl, rfl, rfl, Nat.le_refl _, fun _ _ _ => rfl, fun _ _ h => ⟨h, rfl⟩, fun _ _ h => .inl h, Grow.refl _ _, fun id _ c h => .inl ⟨id, c, h⟩⟩

theorem RT.drawn {w : World} {S : Cells} (n : Nat) {x : T} {u : Value} (h : RT w S x u) : RT { w with drawn := n } S x u := RT.mono (w := w) (w' := { w with drawn := n }) (S := S) (S' := S) (fun _ _ h => ⟨h, rfl⟩) h
theorem Rel.drawn {w : World} {S : Cells} {H : Heap} {β : Bl} (h : Rel w S H β) (n : Nat) : Rel { w with drawn := n } S H β where
  len := h.len
  inj := h.inj
  lt := h.lt
  obj := fun id o b c ho e => (h.obj id o b c ho e).mono (fun _ _ h => ⟨h, rfl⟩) (Grow.refl _ _) rfl (fun _ => Iff.rfl)

end Go.Sim
